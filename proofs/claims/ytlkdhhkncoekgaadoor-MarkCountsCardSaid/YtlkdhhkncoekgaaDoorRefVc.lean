/- What functions ask (printed). -/
import Derived.Test.YtlkdhhkncoekgaaDoorAmTri
import Derived.Test.YtlkdhhkncoekgaaDoorTabs
namespace Go.Proofs.YtlkdhhkncoekgaaDoor
open Go.Am Go
open _root_.Go.Am.AV (int slice ptr str bool agg tuple)
open _root_.Go.IntKind (i64 i32 u8 u64)
open _root_.Go.Am.aS (cells)
theorem BV (X:aN) (xf xt xk xv yf yt yk yv:Int) (H:AH) (Q:AV→AH→Prop):(gP X Tryd.prog [] 71 [.agg [.int .i64 xf,.int .i64 xt,.int .i64 xk,.int .i64 xv],.agg [.int .i64 yf,.int .i64 yt,.int .i64 yk,.int .i64 yv]] H Q) =
(true=true ∧
true=true ∧
∃(n1:Int),
X.aM
(X.al (X.al H (cells [int i64 xf,int i64 xt,int i64 xk,int i64 xv] 41 { whole:=true }))
(cells [int i64 yf,int i64 yt,int i64 yk,int i64 yv] 41 { whole:=true }))
(X.n H) 0 =
some (int i64 n1) ∧
∃(n2:Int),
X.aM
(X.al (X.al H (cells [int i64 xf,int i64 xt,int i64 xk,int i64 xv] 41 { whole:=true }))
(cells [int i64 yf,int i64 yt,int i64 yk,int i64 yv] 41 { whole:=true }))
(X.n (X.al H (cells [int i64 xf,int i64 xt,int i64 xk,int i64 xv] 41 { whole:=true }))) 0 =
some (int i64 n2) ∧
∃(n3:Int),
X.aM
(X.al (X.al H (cells [int i64 xf,int i64 xt,int i64 xk,int i64 xv] 41 { whole:=true }))
(cells [int i64 yf,int i64 yt,int i64 yk,int i64 yv] 41 { whole:=true }))
(X.n H) 1 =
some (int i64 n3) ∧
∃(n4:Int),
X.aM
(X.al (X.al H (cells [int i64 xf,int i64 xt,int i64 xk,int i64 xv] 41 { whole:=true }))
(cells [int i64 yf,int i64 yt,int i64 yk,int i64 yv] 41 { whole:=true }))
(X.n (X.al H (cells [int i64 xf,int i64 xt,int i64 xk,int i64 xv] 41 { whole:=true }))) 1 =
some (int i64 n4) ∧
Q (bool (decide (n1≥n2) && decide (n3≤n4)))
(X.al (X.al H (cells [int i64 xf,int i64 xt,int i64 xk,int i64 xv] 41 { whole:=true }))
(cells [int i64 yf,int i64 yt,int i64 yk,int i64 yv] 41 { whole:=true }))):=by kernel_rfl
theorem EM (X:aN) (xf xt xk xv yf yt yk yv:Int) (H:AH) (Q:AV→AH→Prop):(gP X Tryd.prog [] 57 [.agg [.int .i64 xf,.int .i64 xt,.int .i64 xk,.int .i64 xv],.agg [.int .i64 yf,.int .i64 yt,.int .i64 yk,.int .i64 yv]] H Q) =
(true=true ∧
true=true ∧
∃(n1:Int),
X.aM
(X.al (X.al H (cells [int i64 xf,int i64 xt,int i64 xk,int i64 xv] 41 { whole:=true }))
(cells [int i64 yf,int i64 yt,int i64 yk,int i64 yv] 41 { whole:=true }))
(X.n H) 0 =
some (int i64 n1) ∧
∃(n2:Int),
X.aM
(X.al (X.al H (cells [int i64 xf,int i64 xt,int i64 xk,int i64 xv] 41 { whole:=true }))
(cells [int i64 yf,int i64 yt,int i64 yk,int i64 yv] 41 { whole:=true }))
(X.n (X.al H (cells [int i64 xf,int i64 xt,int i64 xk,int i64 xv] 41 { whole:=true }))) 1 =
some (int i64 n2) ∧
∃(n3:Int),
X.aM
(X.al (X.al H (cells [int i64 xf,int i64 xt,int i64 xk,int i64 xv] 41 { whole:=true }))
(cells [int i64 yf,int i64 yt,int i64 yk,int i64 yv] 41 { whole:=true }))
(X.n (X.al H (cells [int i64 xf,int i64 xt,int i64 xk,int i64 xv] 41 { whole:=true }))) 0 =
some (int i64 n3) ∧
∃(n4:Int),
X.aM
(X.al (X.al H (cells [int i64 xf,int i64 xt,int i64 xk,int i64 xv] 41 { whole:=true }))
(cells [int i64 yf,int i64 yt,int i64 yk,int i64 yv] 41 { whole:=true }))
(X.n H) 1 =
some (int i64 n4) ∧
∃(n5 n6 n7 n8:Int),
X.bP
(X.al (X.al H (cells [int i64 xf,int i64 xt,int i64 xk,int i64 xv] 41 { whole:=true }))
(cells [int i64 yf,int i64 yt,int i64 yk,int i64 yv] 41 { whole:=true }))
(X.n H) 0 4 =
some [int i64 n5,int i64 n6,int i64 n7,int i64 n8] ∧
∃(n9 fO iL kI:Int),
X.bP
(X.al (X.al H (cells [int i64 xf,int i64 xt,int i64 xk,int i64 xv] 41 { whole:=true }))
(cells [int i64 yf,int i64 yt,int i64 yk,int i64 yv] 41 { whole:=true }))
(X.n (X.al H (cells [int i64 xf,int i64 xt,int i64 xk,int i64 xv] 41 { whole:=true }))) 0 4 =
some [int i64 n9,int i64 fO,int i64 iL,int i64 kI] ∧
bif (decide (n1<n2) && decide (n3<n4)) == true then
X.call 71
[agg [int i64 n5,int i64 n6,int i64 n7,int i64 n8],
agg [int i64 n9,int i64 fO,int i64 iL,int i64 kI]]
(X.al (X.al H (cells [int i64 xf,int i64 xt,int i64 xk,int i64 xv] 41 { whole:=true }))
(cells [int i64 yf,int i64 yt,int i64 yk,int i64 yv] 41 { whole:=true }))
fun (v1:AV) (H1:AH) =>
∃(b1:Bool),
v1=bool b1 ∧
∃(jQ kX mS pW:Int),
X.bP H1 (X.n (X.al H (cells [int i64 xf,int i64 xt,int i64 xk,int i64 xv] 41 { whole:=true }))) 0 4 =
some [int i64 jQ,int i64 kX,int i64 mS,int i64 pW] ∧
∃(r8 uL xQ vL:Int),
X.bP H1 (X.n H) 0 4=some [int i64 r8,int i64 uL,int i64 xQ,int i64 vL] ∧
bif (!b1) == true then
X.call 71
[agg [int i64 jQ,int i64 kX,int i64 mS,int i64 pW],
agg [int i64 r8,int i64 uL,int i64 xQ,int i64 vL]]
H1 fun (v2:AV) (H2:AH)=>∃(b2:Bool),v2=bool b2∧Q (bool !b2) H2
else Q (bool false) H1
else
∃(Bc Dr B9 EZ:Int),
X.bP
(X.al (X.al H (cells [int i64 xf,int i64 xt,int i64 xk,int i64 xv] 41 { whole:=true }))
(cells [int i64 yf,int i64 yt,int i64 yk,int i64 yv] 41 { whole:=true }))
(X.n (X.al H (cells [int i64 xf,int i64 xt,int i64 xk,int i64 xv] 41 { whole:=true }))) 0 4 =
some [int i64 Bc,int i64 Dr,int i64 B9,int i64 EZ] ∧
∃(EY EX Dq Dp:Int),
X.bP
(X.al (X.al H (cells [int i64 xf,int i64 xt,int i64 xk,int i64 xv] 41 { whole:=true }))
(cells [int i64 yf,int i64 yt,int i64 yk,int i64 yv] 41 { whole:=true }))
(X.n H) 0 4 =
some [int i64 EY,int i64 EX,int i64 Dq,int i64 Dp] ∧
Q (bool false)
(X.al (X.al H (cells [int i64 xf,int i64 xt,int i64 xk,int i64 xv] 41 { whole:=true }))
(cells [int i64 yf,int i64 yt,int i64 yk,int i64 yv] 41 { whole:=true }))):=by kernel_rfl
theorem Hr (X:aN) (xf xt xk xv:Int) (n:Int) (H:AH) (Q:AV→AH→Prop):(gP X Tryd.prog [] 56 [.agg [.int .i64 xf,.int .i64 xt,.int .i64 xk,.int .i64 xv],.int .i64 n] H Q) =
(true=true ∧
∃(n1:Int),
X.aM (X.al H (cells [int i64 xf,int i64 xt,int i64 xk,int i64 xv] 41 { whole:=true })) (X.n H) 0=some (int i64 n1) ∧
∃(n2:Int),
X.aM (X.al H (cells [int i64 xf,int i64 xt,int i64 xk,int i64 xv] 41 { whole:=true })) (X.n H) 1=some (int i64 n2) ∧
∃(n3:Int),
X.aM (X.al H (cells [int i64 xf,int i64 xt,int i64 xk,int i64 xv] 41 { whole:=true })) (X.n H) 0=some (int i64 n3) ∧
∃(n4:Int),
X.aM (X.al H (cells [int i64 xf,int i64 xt,int i64 xk,int i64 xv] 41 { whole:=true })) (X.n H) 1=some (int i64 n4) ∧
∃(n5:Int),
X.aM (X.al H (cells [int i64 xf,int i64 xt,int i64 xk,int i64 xv] 41 { whole:=true })) (X.n H) 2=some (int i64 n5) ∧
∃(n6:Int),
X.aM (X.al H (cells [int i64 xf,int i64 xt,int i64 xk,int i64 xv] 41 { whole:=true })) (X.n H) 2=some (int i64 n6) ∧
bif decide (n1<(0:Int)) || decide (n2 > n) || decide (n3≥n4) || decide (n5<(1:Int)) || decide (n6 > (5:Int)) then
Q (bool false) (X.al H (cells [int i64 xf,int i64 xt,int i64 xk,int i64 xv] 41 { whole:=true }))
else
∃(n7:Int),
X.aM (X.al H (cells [int i64 xf,int i64 xt,int i64 xk,int i64 xv] 41 { whole:=true })) (X.n H) 2=some (int i64 n7) ∧
bif n7 == (5:Int) then
∃(n8:Int),
X.aM (X.al H (cells [int i64 xf,int i64 xt,int i64 xk,int i64 xv] 41 { whole:=true })) (X.n H) 3=some (int i64 n8) ∧
∃(n9:Int),
X.aM (X.al H (cells [int i64 xf,int i64 xt,int i64 xk,int i64 xv] 41 { whole:=true })) (X.n H) 3=some (int i64 n9) ∧
Q (bool (decide (n8≥(0:Int)) && decide (n9≤(16777215:Int))))
(X.al H (cells [int i64 xf,int i64 xt,int i64 xk,int i64 xv] 41 { whole:=true }))
else
∃(fO:Int),
X.aM (X.al H (cells [int i64 xf,int i64 xt,int i64 xk,int i64 xv] 41 { whole:=true })) (X.n H) 3=some (int i64 fO) ∧
Q (bool (fO == (0:Int))) (X.al H (cells [int i64 xf,int i64 xt,int i64 xk,int i64 xv] 41 { whole:=true }))):=by kernel_rfl
theorem EK (X:aN) (s:List UInt8) (q:Option (Nat×Nat)) (k c:Nat) (H:AH) (Q:AV→AH→Prop):(gP X Tryd.prog [] 14 [.agg [.str s,.slice q k c]] H Q) =
(true=true ∧
∃(s1:List UInt8),
∃(q1:Option (Nat×Nat)),
∃(k1 k2:Nat),
X.bP (X.al H (cells [str s,slice q k c] 26 { whole:=true })) (X.n H) 0 2=some [str s1,slice q1 k1 k2] ∧
X.call 31 [agg [str s1,slice q1 k1 k2]] (X.al H (cells [str s,slice q k c] 26 { whole:=true })) fun (v1:AV) (H1:AH) =>
∃(n1:Int),v1=int i64 n1∧Q (bool (n1 == (0:Int))) H1):=by kernel_rfl
theorem EO (X:Option Nat→aN) (It:FuncId→List AV→List AV→(AH→Prop)→List (List AV)→Prop) (s:List UInt8) (q:Option (Nat×Nat)) (k c:Nat) (H:AH) (Q:AV→AH→Prop):(oh X It Tryd.prog [⟨7,Nat×Int×Int,[1,3,4],fun x=>[.ptr (some (x.1,0)),.int .i64 x.2.1,.int .i64 x.2.2],fun _ _ _=>True⟩,⟨12,Nat×Int,[1,5],fun x=>[.ptr (some (x.1,0)),.int .i64 x.2],fun _ _ _=>True⟩,⟨15,Nat×Int×Int,[1,5,6],fun x=>[.ptr (some (x.1,0)),.int .i64 x.2.1,.int .i64 x.2.2],fun _ _ _=>True⟩] [] 31 [.agg [.str s,.slice q k c]] H Q) =
(true=true ∧
∃(s1:List UInt8),
(X none).aM ((X none).al H (cells [str s,slice q k c] 26 { whole:=true })) ((X none).n H) 0=some (str s1) ∧
bif decide ((↑s1.length:Int) > (4096:Int)) then Q (int i64 3) ((X none).al H (cells [str s,slice q k c] (26:Nat) { whole:=true }))
else
∃(q1:Option (Nat×Nat)),
∃(k1 k2:Nat),
(X none).aM ((X none).al H (cells [str s,slice q k c] 26 { whole:=true })) ((X none).n H) 1=some (slice q1 k1 k2) ∧
bif decide ((↑k1:Int) > (256:Int)) then Q (int i64 2) ((X none).al H (cells [str s,slice q k c] (26:Nat) { whole:=true }))
else
∃(s2:List UInt8),
(X none).aM ((X none).al H (cells [str s,slice q k c] 26 { whole:=true })) ((X none).n H) 0=some (str s2) ∧
(X none).call 41 [str s2] ((X none).al H (cells [str s,slice q k c] 26 { whole:=true })) fun (v1:AV) (H1:AH) =>
∃(n1:Int),
v1=int i64 n1 ∧
∃(x1:Nat×Int×Int→AH→Nat→Prop),
(∃(x2:Nat×Int×Int),
∃(k3:Nat),
[ptr (some ((X none).n H,0)),int i64 n1,int i64 0]=[ptr (some (x2.1,0)),int i64 x2.2.1,int i64 x2.2.2] ∧
x1 x2 H1 k3) ∧
∀(x3:Nat×Int×Int) (H2:AH) (k4:Nat),
x1 x3 H2 k4 →
∃(q2:Option (Nat×Nat)),
∃(k5 k6:Nat),
(X none).aM H2 x3.1 1=some (slice q2 k5 k6) ∧
bif decide (x3.2.2<(↑k5:Int)) then
∃(q3:Option (Nat×Nat)),
∃(k7 k8:Nat),
(X none).aM H2 x3.1 1=some (slice q3 k7 k8) ∧
∃(k9 nO:Nat),
(q3=some (k9,nO)∧(0:Int)≤x3.2.2∧x3.2.2<(↑k7:Int)) ∧
∃(n2 n3 n4 n5:Int),
(X none).bP H2 k9 (nO+x3.2.2.toNat*4) 4=some [int i64 n2,int i64 n3,int i64 n4,int i64 n5] ∧
(X none).call 56 [agg [int i64 n2,int i64 n3,int i64 n4,int i64 n5],int i64 x3.2.1] H2
fun (v2:AV) (H3:AH) =>
∃(b1:Bool),
v2=bool b1 ∧
bif !b1 then Q (int i64 23) H3
else
∃(x4:Nat×Int×Int),
∃(gQ:Nat),
gQ<k4 ∧
[ptr (some (x3.1,0)),int i64 x3.2.1,int i64 ((X none).wrap i64 (x3.2.2+(1:Int)))] =
[ptr (some (x4.1,0)),int i64 x4.2.1,int i64 x4.2.2] ∧
x1 x4 H3 gQ
else
∃(x5:Nat×Int→AH→Nat→Prop),
(∃(x6:Nat×Int),∃(mF:Nat),[ptr (some (x3.1,0)),int i64 0]=[ptr (some (x6.1,0)),int i64 x6.2]∧x5 x6 H2 mF) ∧
∀(x7:Nat×Int) (H4:AH) (nN:Nat),
x5 x7 H4 nN →
∃(q4:Option (Nat×Nat)),
∃(kQ nh:Nat),
(X none).aM H4 x7.1 1=some (slice q4 kQ nh) ∧
bif decide (x7.2<(↑kQ:Int)) then
∃(x8:Nat×Int×Int→AH→Nat→Prop),
(∃(x9:Nat×Int×Int),
∃(rJ:Nat),
[ptr (some (x7.1,0)),int i64 x7.2,int i64 0] =
[ptr (some (x9.1,0)),int i64 x9.2.1,int i64 x9.2.2] ∧
x8 x9 H4 rJ) ∧
∀(bW:Nat×Int×Int) (H5:AH) (kP:Nat),
x8 bW H5 kP →
bif decide (bW.2.2<bW.2.1) then
∃(q5:Option (Nat×Nat)),
∃(oV uN:Nat),
(X none).aM H5 bW.1 1=some (slice q5 oV uN) ∧
∃(Ck sk:Nat),
(q5=some (Ck,sk)∧(0:Int)≤bW.2.1∧bW.2.1<(↑oV:Int)) ∧
∃(n6 n7 n8 n9:Int),
(X none).bP H5 Ck (sk+bW.2.1.toNat*4) 4 =
some [int i64 n6,int i64 n7,int i64 n8,int i64 n9] ∧
∃(q6:Option (Nat×Nat)),
∃(qQ qP:Nat),
(X none).aM H5 bW.1 1=some (slice q6 qQ qP) ∧
∃(sj Dy:Nat),
(q6=some (sj,Dy)∧(0:Int)≤bW.2.2∧bW.2.2<(↑qQ:Int)) ∧
∃(fO iL kI jQ:Int),
(X none).bP H5 sj (Dy+bW.2.2.toNat*4) 4 =
some [int i64 fO,int i64 iL,int i64 kI,int i64 jQ] ∧
(X none).call 57
[agg [int i64 n6,int i64 n7,int i64 n8,int i64 n9],
agg [int i64 fO,int i64 iL,int i64 kI,int i64 jQ]]
H5 fun (v3:AV) (H6:AH) =>
∃(b2:Bool),
v3=bool b2 ∧
bif b2 then Q (int i64 23) H6
else
∃(dB:Nat×Int×Int),
∃(Ak:Nat),
Ak<kP ∧
[ptr (some (bW.1,0)),int i64 bW.2.1,
int i64 ((X none).wrap i64 (bW.2.2+(1:Int)))] =
[ptr (some (dB.1,0)),int i64 dB.2.1,
int i64 dB.2.2] ∧
x8 dB H6 Ak
else
∃(eD:Nat×Int),
∃(vU:Nat),
vU<nN ∧
[ptr (some (bW.1,0)),int i64 ((X none).wrap i64 (bW.2.1+(1:Int)))] =
[ptr (some (eD.1,0)),int i64 eD.2] ∧
x5 eD H5 vU
else Q (int i64 0) H4):=by kernel_rfl
theorem Kb (X:Option Nat→aN) (It:FuncId→List AV→List AV→(AH→Prop)→List (List AV)→Prop) (s:List UInt8) (q:Option (Nat×Nat)) (k c:Nat) (H:AH) (Q:AV→AH→Prop):(oh X It Tryd.prog [⟨4,Nat×Int×(Option (Nat×Nat)×Nat)×Int,[1,3,4,5],fun x=>[.ptr (some (x.1,0)),.int .i64 x.2.1,.slice x.2.2.1.1 x.2.2.1.2 x.2.2.1.2,.int .i64 x.2.2.2],fun _ _ _=>True⟩] [] 21 [.agg [.str s,.slice q k c]] H Q) =
(true=true ∧
∃(s1:List UInt8),
(X none).aM ((X none).al H (cells [str s,slice q k c] 26 { whole:=true })) ((X none).n H) 0=some (str s1) ∧
(X none).call 41 [str s1] ((X none).al H (cells [str s,slice q k c] 26 { whole:=true })) fun (v1:AV) (H1:AH) =>
∃(n1:Int),
v1=int i64 n1 ∧
∃(x1:Nat×Int×(Option (Nat×Nat)×Nat)×Int→AH→Nat→Prop),
(∃(x2:Nat×Int×(Option (Nat×Nat)×Nat)×Int),
∃(k1:Nat),
[ptr (some ((X none).n H,0)),int i64 n1,slice none 0 0,int i64 0] =
[ptr (some (x2.1,0)),int i64 x2.2.1,slice x2.2.2.1.1 x2.2.2.1.2 x2.2.2.1.2,int i64 x2.2.2.2] ∧
x1 x2 H1 k1) ∧
∀(x3:Nat×Int×(Option (Nat×Nat)×Nat)×Int) (H2:AH) (k2:Nat),
x1 x3 H2 k2 →
bif decide (x3.2.2.2<x3.2.1) then
∃(s2:List UInt8),
∃(q1:Option (Nat×Nat)),
∃(k3 k4:Nat),
(X none).bP H2 x3.1 0 2=some [str s2,slice q1 k3 k4] ∧
(X none).call 42 [agg [str s2,slice q1 k3 k4],int i64 x3.2.2.2] H2 fun (v2:AV) (H3:AH) =>
∃(b1 b2 b3 b4:Bool),
∃(n2:Int),
v2=agg [bool b1,bool b2,bool b3,bool b4,int i64 n2] ∧
(5≤16777216∧5=5∧0<5∧true=true∧true=true) ∧
∃(q2:Option (Nat×Nat)),
∃(k5 k6:Nat),
∃(H4:AH),
(X none).app 50 50 (slice x3.2.2.1.1 x3.2.2.1.2 x3.2.2.1.2) (slice (some ((X none).n H3,0)) 1 1)
((X none).al H3 (cells [bool b1,bool b2,bool b3,bool b4,int i64 n2] 53 { whole:=true })) =
some (slice q2 k5 k6,H4) ∧
∃(x4:Nat×Int×(Option (Nat×Nat)×Nat)×Int),
∃(k7:Nat),
k7<k2 ∧
[ptr (some (x3.1,0)),int i64 x3.2.1,slice q2 k5 k6,int i64 ((X none).wrap i64 (x3.2.2.2+(1:Int)))] =
[ptr (some (x4.1,0)),int i64 x4.2.1,slice x4.2.2.1.1 x4.2.2.1.2 x4.2.2.1.2,int i64 x4.2.2.2] ∧
x1 x4 H4 k7
else Q (slice x3.2.2.1.1 x3.2.2.1.2 x3.2.2.1.2) H2):=by kernel_rfl
theorem EL (X:Option Nat→aN) (It:FuncId→List AV→List AV→(AH→Prop)→List (List AV)→Prop) (s:List UInt8) (q:Option (Nat×Nat)) (k c:Nat) (n:Int) (H:AH) (Q:AV→AH→Prop):(oh X It Tryd.prog [⟨4,Nat×Nat×Nat×Int×Int,[1,2,4,5,6,7],fun x=>[.int .i64 n,.ptr (some (x.1,0)),.ptr (some (x.2.1,0)),.ptr (some (x.2.2.1,0)),.int .i64 x.2.2.2.1,.int .i64 x.2.2.2.2],fun _ _ _=>True⟩,⟨200005,Nat×Nat×Nat×Int×Int,[1,2,4,5,6,7],fun x=>[.int .i64 n,.ptr (some (x.1,0)),.ptr (some (x.2.1,0)),.ptr (some (x.2.2.1,0)),.int .i64 x.2.2.2.1,.int .i64 x.2.2.2.2],fun _ _ _=>True⟩,⟨200010,(Nat×Nat×Nat×Int×Int)×Nat×Bool,[1,2,4,5,6,7,8,44],fun x=>[.int .i64 n,.ptr (some (x.1.1,0)),.ptr (some (x.1.2.1,0)),.ptr (some (x.1.2.2.1,0)),.int .i64 x.1.2.2.2.1,.int .i64 x.1.2.2.2.2,.ptr (some (x.2.1,0)),.bool x.2.2],fun _ _ _=>True⟩] [] 42 [.agg [.str s,.slice q k c],.int .i64 n] H Q) =
(true=true ∧
[bool false,bool false,bool false,bool false,int i64 0].length=5 ∧
∃(H1:AH),
(X none).wr
((X none).al
((X none).al ((X none).al H (cells [str s,slice q k c] 26 { whole:=true }))
(cells [bool false,bool false,bool false,bool false,int i64 0] 53 { whole:=true }))
(cells [bool false,bool false,bool false,bool false,int i64 0] 53 { whole:=true }))
((X none).n
((X none).al ((X none).al H (cells [str s,slice q k c] 26 { whole:=true }))
(cells [bool false,bool false,bool false,bool false,int i64 0] 53 { whole:=true })))
0 [bool false,bool false,bool false,bool false,int i64 0] =
some H1 ∧
∃(x1:Nat×Nat×Nat×Int×Int→AH→Nat→Prop),
(∃(x2:Nat×Nat×Nat×Int×Int),
∃(k1:Nat),
[int i64 n,ptr (some ((X none).n H,0)),ptr (some ((X none).n ((X none).al H (cells [str s,slice q k c] 26 { whole:=true })),0)),
ptr
(some
((X none).n
((X none).al ((X none).al H (cells [str s,slice q k c] 26 { whole:=true }))
(cells [bool false,bool false,bool false,bool false,int i64 0] 53 { whole:=true })),
0)),
int i64 (-1:Int),int i64 0] =
[int i64 n,ptr (some (x2.1,0)),ptr (some (x2.2.1,0)),ptr (some (x2.2.2.1,0)),int i64 x2.2.2.2.1,int i64 x2.2.2.2.2] ∧
x1 x2 H1 k1) ∧
∀(x3:Nat×Nat×Nat×Int×Int) (H2:AH) (k2:Nat),
x1 x3 H2 k2 →
∃(q1:Option (Nat×Nat)),
∃(k3 k4:Nat),
(X none).aM H2 x3.1 1=some (slice q1 k3 k4) ∧
bif decide (x3.2.2.2.2<(↑k3:Int)) then
∃(x4:Nat×Nat×Nat×Int×Int→AH→Prop),
(∃(q2:Option (Nat×Nat)),
∃(k5 k6:Nat),
(X none).aM H2 x3.1 1=some (slice q2 k5 k6) ∧
∃(k7 k8:Nat),
(q2=some (k7,k8)∧(0:Int)≤x3.2.2.2.2∧x3.2.2.2.2<(↑k5:Int)) ∧
∃(n1 n2 n3 n4:Int),
(X none).bP H2 k7 (k8+x3.2.2.2.2.toNat*4) 4=some [int i64 n1,int i64 n2,int i64 n3,int i64 n4] ∧
[int i64 n1,int i64 n2,int i64 n3,int i64 n4].length=4 ∧
∃(H3:AH),
(X none).wr
((X none).al H2
(cells [int i64 0,int i64 0,int i64 0,int i64 0] 41 { whole:=true }))
((X none).n H2) 0 [int i64 n1,int i64 n2,int i64 n3,int i64 n4] =
some H3 ∧
∃(n5:Int),
(X none).aM H3 ((X none).n H2) 0=some (int i64 n5) ∧
∃(n6:Int),
(X none).aM H3 ((X none).n H2) 1=some (int i64 n6) ∧
bif decide (n<n5) || decide (n≥n6) then
∃(x5:Nat×Nat×Nat×Int×Int),
∃(_k9:Nat),
True ∧
[int i64 n,ptr (some (x3.1,0)),ptr (some (x3.2.1,0)),ptr (some (x3.2.2.1,0)),
int i64 x3.2.2.2.1,int i64 x3.2.2.2.2] =
[int i64 n,ptr (some (x5.1,0)),ptr (some (x5.2.1,0)),ptr (some (x5.2.2.1,0)),
int i64 x5.2.2.2.1,int i64 x5.2.2.2.2] ∧
x4 x5 H3
else
∃(n7:Int),
(X none).aM H3 ((X none).n H2) 2=some (int i64 n7) ∧
bif n7 == (1:Int) then
1=1 ∧
∃(H4:AH),
(X none).wr H3 x3.2.2.1 0 [bool true]=some H4 ∧
∃(x6:Nat×Nat×Nat×Int×Int),
∃(_k10:Nat),
True ∧
[int i64 n,ptr (some (x3.1,0)),ptr (some (x3.2.1,0)),ptr (some (x3.2.2.1,0)),
int i64 x3.2.2.2.1,int i64 x3.2.2.2.2] =
[int i64 n,ptr (some (x6.1,0)),ptr (some (x6.2.1,0)),ptr (some (x6.2.2.1,0)),
int i64 x6.2.2.2.1,int i64 x6.2.2.2.2] ∧
x4 x6 H4
else
bif n7 == (2:Int) then
1=1 ∧
∃(H5:AH),
(X none).wr H3 x3.2.2.1 1 [bool true]=some H5 ∧
∃(x7:Nat×Nat×Nat×Int×Int),
∃(_k11:Nat),
True ∧
[int i64 n,ptr (some (x3.1,0)),ptr (some (x3.2.1,0)),ptr (some (x3.2.2.1,0)),
int i64 x3.2.2.2.1,int i64 x3.2.2.2.2] =
[int i64 n,ptr (some (x7.1,0)),ptr (some (x7.2.1,0)),ptr (some (x7.2.2.1,0)),
int i64 x7.2.2.2.1,int i64 x7.2.2.2.2] ∧
x4 x7 H5
else
bif n7 == (3:Int) then
1=1 ∧
∃(H6:AH),
(X none).wr H3 x3.2.2.1 2 [bool true]=some H6 ∧
∃(x8:Nat×Nat×Nat×Int×Int),
∃(_k12:Nat),
True ∧
[int i64 n,ptr (some (x3.1,0)),ptr (some (x3.2.1,0)),ptr (some (x3.2.2.1,0)),
int i64 x3.2.2.2.1,int i64 x3.2.2.2.2] =
[int i64 n,ptr (some (x8.1,0)),ptr (some (x8.2.1,0)),ptr (some (x8.2.2.1,0)),
int i64 x8.2.2.2.1,int i64 x8.2.2.2.2] ∧
x4 x8 H6
else
bif n7 == (4:Int) then
1=1 ∧
∃(H7:AH),
(X none).wr H3 x3.2.2.1 3 [bool true]=some H7 ∧
∃(x9:Nat×Nat×Nat×Int×Int),
∃(_k13:Nat),
True ∧
[int i64 n,ptr (some (x3.1,0)),ptr (some (x3.2.1,0)),ptr (some (x3.2.2.1,0)),
int i64 x3.2.2.2.1,int i64 x3.2.2.2.2] =
[int i64 n,ptr (some (x9.1,0)),ptr (some (x9.2.1,0)),ptr (some (x9.2.2.1,0)),
int i64 x9.2.2.2.1,int i64 x9.2.2.2.2] ∧
x4 x9 H7
else
∃(bW:(Nat×Nat×Nat×Int×Int)×Nat×Bool→AH→Prop),
(bif decide (x3.2.2.2.1<(0:Int)) == false then
∃(n8 n9 fO iL:Int),
(X none).bP H3 ((X none).n H2) 0 4 =
some [int i64 n8,int i64 n9,int i64 fO,int i64 iL] ∧
∃(q3:Option (Nat×Nat)),
∃(kQ nh:Nat),
(X none).aM H3 x3.1 1=some (slice q3 kQ nh) ∧
∃(rJ kP:Nat),
(q3=some (rJ,kP)∧(0:Int)≤x3.2.2.2.1∧x3.2.2.2.1<(↑kQ:Int)) ∧
∃(kI jQ kX mS:Int),
(X none).bP H3 rJ (kP+x3.2.2.2.1.toNat*4) 4 =
some [int i64 kI,int i64 jQ,int i64 kX,int i64 mS] ∧
(X none).call 71
[agg [int i64 n8,int i64 n9,int i64 fO,int i64 iL],
agg [int i64 kI,int i64 jQ,int i64 kX,int i64 mS]]
H3 fun (v1:AV) (H8:AH) =>
∃(b1:Bool),
v1=bool b1 ∧
∃(dB:(Nat×Nat×Nat×Int×Int)×Nat×Bool),
∃(_k18:Nat),
True ∧
[int i64 n,ptr (some (x3.1,0)),ptr (some (x3.2.1,0)),
ptr (some (x3.2.2.1,0)),int i64 x3.2.2.2.1,
int i64 x3.2.2.2.2,ptr (some ((X none).n H2,0)),bool b1] =
[int i64 n,ptr (some (dB.1.1,0)),
ptr (some (dB.1.2.1,0)),ptr (some (dB.1.2.2.1,0)),
int i64 dB.1.2.2.2.1,int i64 dB.1.2.2.2.2,
ptr (some (dB.2.1,0)),bool dB.2.2] ∧
bW dB H8
else
∃(eD:(Nat×Nat×Nat×Int×Int)×Nat×Bool),
∃(_k19:Nat),
True ∧
[int i64 n,ptr (some (x3.1,0)),ptr (some (x3.2.1,0)),ptr (some (x3.2.2.1,0)),
int i64 x3.2.2.2.1,int i64 x3.2.2.2.2,ptr (some ((X none).n H2,0)),bool true] =
[int i64 n,ptr (some (eD.1.1,0)),ptr (some (eD.1.2.1,0)),
ptr (some (eD.1.2.2.1,0)),int i64 eD.1.2.2.2.1,int i64 eD.1.2.2.2.2,
ptr (some (eD.2.1,0)),bool eD.2.2] ∧
bW eD H3) ∧
∀(jT:(Nat×Nat×Nat×Int×Int)×Nat×Bool) (H9:AH),
bW jT H9 →
bif jT.2.2 then
∃(pW:Int),
(X none).aM H9 jT.2.1 3=some (int i64 pW) ∧
[int i64 ((X none).wrap i64 (pW+(1:Int)))].length=1 ∧
∃(kN:AH),
(X none).wr H9 jT.1.2.2.1 4 [int i64 ((X none).wrap i64 (pW+(1:Int)))]=some kN ∧
∃(cQ:Nat×Nat×Nat×Int×Int),
∃(_k20:Nat),
True ∧
[int i64 n,ptr (some (jT.1.1,0)),ptr (some (jT.1.2.1,0)),
ptr (some (jT.1.2.2.1,0)),int i64 jT.1.2.2.2.2,
int i64 jT.1.2.2.2.2] =
[int i64 n,ptr (some (cQ.1,0)),ptr (some (cQ.2.1,0)),
ptr (some (cQ.2.2.1,0)),int i64 cQ.2.2.2.1,int i64 cQ.2.2.2.2] ∧
x4 cQ kN
else
∃(bD:Nat×Nat×Nat×Int×Int),
∃(_k21:Nat),
True ∧
[int i64 n,ptr (some (jT.1.1,0)),ptr (some (jT.1.2.1,0)),
ptr (some (jT.1.2.2.1,0)),int i64 jT.1.2.2.2.1,
int i64 jT.1.2.2.2.2] =
[int i64 n,ptr (some (bD.1,0)),ptr (some (bD.2.1,0)),
ptr (some (bD.2.2.1,0)),int i64 bD.2.2.2.1,int i64 bD.2.2.2.2] ∧
x4 bD H9) ∧
∀(uJ:Nat×Nat×Nat×Int×Int) (oe:AH),
x4 uJ oe →
∃(fy:Nat×Nat×Nat×Int×Int),
∃(qQ:Nat),
qQ<k2 ∧
[int i64 n,ptr (some (uJ.1,0)),ptr (some (uJ.2.1,0)),ptr (some (uJ.2.2.1,0)),int i64 uJ.2.2.2.1,
int i64 ((X none).wrap i64 (uJ.2.2.2.2+(1:Int)))] =
[int i64 n,ptr (some (fy.1,0)),ptr (some (fy.2.1,0)),ptr (some (fy.2.2.1,0)),int i64 fy.2.2.2.1,
int i64 fy.2.2.2.2] ∧
x1 fy oe qQ
else
∃(b2 b3 b4 b5:Bool),
∃(r8:Int),
(X none).bP H2 x3.2.2.1 0 5=some [bool b2,bool b3,bool b4,bool b5,int i64 r8] ∧
[bool b2,bool b3,bool b4,bool b5,int i64 r8].length=5 ∧
∃(uS:AH),
(X none).wr H2 x3.2.1 0 [bool b2,bool b3,bool b4,bool b5,int i64 r8]=some uS ∧
∃(b6 b7 b8 b9:Bool),
∃(uL:Int),
(X none).bP uS x3.2.1 0 5=some [bool b6,bool b7,bool b8,bool b9,int i64 uL] ∧
Q (agg [bool b6,bool b7,bool b8,bool b9,int i64 uL]) uS):=by kernel_rfl
theorem EN (X:aN) (s:List UInt8) (H:AH) (Q:AV→AH→Prop):(gP X Tryd.prog [] 41 [.str s] H Q) =
(X.call (70:Nat) [str s] H fun (v1:AV) (H1:AH)=>∃(q1:Option (Nat×Nat)),∃(k1:Nat),∃(k2:Nat),v1=slice q1 k1 k2∧Q (int i64 (↑k1:Int)) H1):=by kernel_rfl
theorem Hq (X:aN) (c:Int) (H:AH) (Q:AV→AH→Prop):(gP X Tryd.prog [] 103 [.int .u8 c] H Q) =
(bif decide (c<(128:Int)) then Q (int i64 1) H
else
bif decide (c≥(194:Int)) && decide (c≤(223:Int)) then Q (int i64 2) H
else
bif decide (c≥(224:Int)) && decide (c≤(239:Int)) then Q (int i64 3) H
else bif decide (c≥(240:Int)) && decide (c≤(244:Int)) then Q (int i64 4) H else Q (int i64 0) H):=by kernel_rfl
theorem BW (X:aN) (c d:Int) (H:AH) (Q:AV→AH→Prop):(gP X Tryd.prog [] 104 [.int .u8 c,.int .u8 d] H Q) =
(bif c == (224:Int) then Q (bool (decide (d≥(160:Int)) && decide (d≤(191:Int)))) H
else
bif c == (237:Int) then Q (bool (decide (d≥(128:Int)) && decide (d≤(159:Int)))) H
else
bif c == (240:Int) then Q (bool (decide (d≥(144:Int)) && decide (d≤(191:Int)))) H
else bif c == (244:Int) then Q (bool (decide (d≥(128:Int)) && decide (d≤(143:Int)))) H else Q (bool (decide (d≥(128:Int)) && decide (d≤(191:Int)))) H):=by kernel_rfl
theorem Hl (X:aN) (b k:Nat) (i:Int) (H:AH) (Q:AV→AH→Prop):(gP X Tryd.prog [] 105 [.slice (some (b,0)) k k,.int .i64 i] H Q) =
(∃(k1 k2:Nat),
(some (b,(0:Nat))=some (k1,k2)∧(0:Int)≤i∧i<(↑k:Int)) ∧
∃(n1:Int),X.aM H k1 (k2+i.toNat*1)=some (int u8 n1)∧Q (int i64 (X.wrap i64 (X.wrap i64 n1 - (128:Int)))) H):=by kernel_rfl
theorem Ho (X:aN) (b k:Nat) (i:Int) (H:AH) (Q:AV→AH→Prop):(gP X Tryd.prog [] 106 [.slice (some (b,0)) k k,.int .i64 i] H Q) =
(∃(k1 k2:Nat),
((decide (i<(↑k:Int)) == true)=true→some (b,(0:Nat))=some (k1,k2)∧(0:Int)≤i∧i<(↑k:Int)) ∧
∃(n1:Int),
((decide (i<(↑k:Int)) == true)=true→X.aM H k1 (k2+i.toNat*(1:Nat))=some (int u8 n1)) ∧
∃(k3 k4:Nat),
(((decide (i<(↑k:Int)) && decide (n1≥(128:Int))) == true)=true→some (b,(0:Nat))=some (k3,k4)∧(0:Int)≤i∧i<(↑k:Int)) ∧
∃(n2:Int),
(((decide (i<(↑k:Int)) && decide (n1≥(128:Int))) == true)=true→X.aM H k3 (k4+i.toNat*(1:Nat))=some (int u8 n2)) ∧
Q (bool (decide (i<(↑k:Int)) && decide (n1≥(128:Int)) && decide (n2≤(191:Int)))) H):=by kernel_rfl
theorem J8 (X:Option Nat→aN) (It:FuncId→List AV→List AV→(AH→Prop)→List (List AV)→Prop) (b k:Nat) (i:Int) (H:AH) (Q:AV→AH→Prop):(oh X It Tryd.prog [⟨200009,Nat×Int×Nat×Bool,[0,1,4,5,6,46],fun x=>[.slice (some (b,0)) k k,.int .i64 i,.ptr (some (x.1,0)),.int .i64 x.2.1,.ptr (some (x.2.2.1,0)),.bool x.2.2.2],fun _ _ _=>True⟩,⟨12,Nat×Int×Nat×Int×Int,[0,1,4,5,6,7,8],fun x=>[.slice (some (b,0)) k k,.int .i64 i,.ptr (some (x.1,0)),.int .i64 x.2.1,.ptr (some (x.2.2.1,0)),.int .i64 x.2.2.2.1,.int .i64 x.2.2.2.2],fun _ _ _=>True⟩] [] 88 [.slice (some (b,0)) k k,.int .i64 i] H Q) =
(∃(k1 k2:Nat),
(some (b,(0:Nat))=some (k1,k2)∧(0:Int)≤i∧i<(↑k:Int)) ∧
∃(n1:Int),
(X none).aM ((X none).al H (cells [int i64 0,int i64 0,int i64 0,bool false] 138 { whole:=true })) k1 (k2+i.toNat*1) =
some (int u8 n1) ∧
(X none).call 103 [int u8 n1] ((X none).al H (cells [int i64 0,int i64 0,int i64 0,bool false] 138 { whole:=true }))
fun (v1:AV) (H1:AH) =>
∃(n2:Int),
v1=int i64 n2 ∧
[int i64 i,int i64 1,int i64 65533,bool true].length=4 ∧
∃(H2:AH),
(X none).wr ((X none).al H1 (cells [int i64 0,int i64 0,int i64 0,bool false] 138 { whole:=true })) ((X none).n H1) 0
[int i64 i,int i64 1,int i64 65533,bool true] =
some H2 ∧
bif n2 == (0:Int) then
∃(n3 n4 n5:Int),
∃(b1:Bool),
(X none).bP H2 ((X none).n H1) 0 4=some [int i64 n3,int i64 n4,int i64 n5,bool b1] ∧
[int i64 n3,int i64 n4,int i64 n5,bool b1].length=4 ∧
∃(H3:AH),
(X none).wr H2 ((X none).n H) 0 [int i64 n3,int i64 n4,int i64 n5,bool b1]=some H3 ∧
∃(n6 n7 n8:Int),
∃(b2:Bool),
(X none).bP H3 ((X none).n H) 0 4=some [int i64 n6,int i64 n7,int i64 n8,bool b2] ∧
Q (agg [int i64 n6,int i64 n7,int i64 n8,bool b2]) H3
else
bif n2 == (1:Int) then
∃(k3 k4:Nat),
(some (b,(0:Nat))=some (k3,k4)∧(0:Int)≤i∧i<(↑k:Int)) ∧
∃(n9:Int),
(X none).aM H2 k3 (k4+i.toNat*1)=some (int u8 n9) ∧
[int i64 i,int i64 1,int i64 ((X none).wrap i64 n9),bool false].length=4 ∧
∃(H4:AH),
(X none).wr H2 ((X none).n H) 0 [int i64 i,int i64 1,int i64 ((X none).wrap i64 n9),bool false]=some H4 ∧
∃(fO iL kI:Int),
∃(b3:Bool),
(X none).bP H4 ((X none).n H) 0 4=some [int i64 fO,int i64 iL,int i64 kI,bool b3] ∧
Q (agg [int i64 fO,int i64 iL,int i64 kI,bool b3]) H4
else
∃(x1:Nat×Int×Nat×Bool→AH→Prop),
(bif decide ((X none).wrap i64 (i+(1:Int))≥(↑k:Int)) == false then
∃(k5 k6:Nat),
(some (b,(0:Nat))=some (k5,k6)∧(0:Int)≤i∧i<(↑k:Int)) ∧
∃(jQ:Int),
(X none).aM H2 k5 (k6+i.toNat*1)=some (int u8 jQ) ∧
∃(k7 k8:Nat),
(some (b,(0:Nat))=some (k7,k8)∧(0:Int)≤(X none).wrap i64 (i+(1:Int))∧(X none).wrap i64 (i+(1:Int))<(↑k:Int)) ∧
∃(kX:Int),
(X none).aM H2 k7 (k8+((X none).wrap i64 (i+(1:Int))).toNat*1)=some (int u8 kX) ∧
(X none).call 104 [int u8 jQ,int u8 kX] H2 fun (v2:AV) (H5:AH) =>
∃(b4:Bool),
v2=bool b4 ∧
∃(x2:Nat×Int×Nat×Bool),
∃(_k9:Nat),
True ∧
[slice (some (b,0)) k k,int i64 i,ptr (some ((X none).n H,0)),int i64 n2,ptr (some ((X none).n H1,0)),
bool !b4] =
[slice (some (b,0)) k k,int i64 i,ptr (some (x2.1,0)),int i64 x2.2.1,ptr (some (x2.2.2.1,0)),
bool x2.2.2.2] ∧
x1 x2 H5
else
∃(x3:Nat×Int×Nat×Bool),
∃(_k10:Nat),
True ∧
[slice (some (b,0)) k k,int i64 i,ptr (some ((X none).n H,0)),int i64 n2,ptr (some ((X none).n H1,0)),bool true] =
[slice (some (b,0)) k k,int i64 i,ptr (some (x3.1,0)),int i64 x3.2.1,ptr (some (x3.2.2.1,0)),bool x3.2.2.2] ∧
x1 x3 H2) ∧
∀(x4:Nat×Int×Nat×Bool) (H6:AH),
x1 x4 H6 →
bif x4.2.2.2 then
∃(mS pW r8:Int),
∃(b5:Bool),
(X none).bP H6 x4.2.2.1 0 4=some [int i64 mS,int i64 pW,int i64 r8,bool b5] ∧
[int i64 mS,int i64 pW,int i64 r8,bool b5].length=4 ∧
∃(H7:AH),
(X none).wr H6 x4.1 0 [int i64 mS,int i64 pW,int i64 r8,bool b5]=some H7 ∧
∃(uL xQ vL:Int),
∃(b6:Bool),
(X none).bP H7 x4.1 0 4=some [int i64 uL,int i64 xQ,int i64 vL,bool b6] ∧
Q (agg [int i64 uL,int i64 xQ,int i64 vL,bool b6]) H7
else
(X none).call 105 [slice (some (b,0)) k k,int i64 ((X none).wrap i64 (i+(1:Int)))] H6 fun (v3:AV) (H8:AH) =>
∃(Bc:Int),
v3=int i64 Bc ∧
∃(x5:Nat×Int×Nat×Int×Int→AH→Nat→Prop),
(∃(x6:Nat×Int×Nat×Int×Int),
∃(gQ:Nat),
[slice (some (b,0)) k k,int i64 i,ptr (some (x4.1,0)),int i64 x4.2.1,ptr (some (x4.2.2.1,0)),
int i64 Bc,int i64 2] =
[slice (some (b,0)) k k,int i64 i,ptr (some (x6.1,0)),int i64 x6.2.1,ptr (some (x6.2.2.1,0)),
int i64 x6.2.2.2.1,int i64 x6.2.2.2.2] ∧
x5 x6 H8 gQ) ∧
∀(x7:Nat×Int×Nat×Int×Int) (H9:AH) (mF:Nat),
x5 x7 H9 mF →
bif decide (x7.2.2.2.2<x7.2.1) then
(X none).call 106 [slice (some (b,0)) k k,int i64 ((X none).wrap i64 (i+x7.2.2.2.2))] H9 fun (v4:AV) (kN:AH) =>
∃(b7:Bool),
v4=bool b7 ∧
bif !b7 then
∃(Dr B9 EZ:Int),
∃(b8:Bool),
(X none).bP kN x7.2.2.1 0 4=some [int i64 Dr,int i64 B9,int i64 EZ,bool b8] ∧
[int i64 Dr,int i64 B9,int i64 EZ,bool b8].length=4 ∧
∃(oe:AH),
(X none).wr kN x7.1 0 [int i64 Dr,int i64 B9,int i64 EZ,bool b8]=some oe ∧
∃(EY EX Dq:Int),
∃(b9:Bool),
(X none).bP oe x7.1 0 4=some [int i64 EY,int i64 EX,int i64 Dq,bool b9] ∧
Q (agg [int i64 EY,int i64 EX,int i64 Dq,bool b9]) oe
else
(X none).call 105 [slice (some (b,0)) k k,int i64 ((X none).wrap i64 (i+x7.2.2.2.2))] kN fun (v5:AV) (uS:AH) =>
∃(Dp:Int),
v5=int i64 Dp ∧
∃(x8:Nat×Int×Nat×Int×Int),
∃(nN:Nat),
nN<mF ∧
[slice (some (b,0)) k k,int i64 i,ptr (some (x7.1,0)),int i64 x7.2.1,ptr (some (x7.2.2.1,0)),
int i64 ((X none).wrap i64 ((X none).wrap i64 ((64:Int)*x7.2.2.2.1)+Dp)),
int i64 ((X none).wrap i64 (x7.2.2.2.2+(1:Int)))] =
[slice (some (b,0)) k k,int i64 i,ptr (some (x8.1,0)),int i64 x8.2.1,
ptr (some (x8.2.2.1,0)),int i64 x8.2.2.2.1,int i64 x8.2.2.2.2] ∧
x5 x8 uS nN
else
bif x7.2.1 == (2:Int) then
∃(kQ nh:Nat),
(some (b,(0:Nat))=some (kQ,nh)∧(0:Int)≤i∧i<(↑k:Int)) ∧
∃(HH:Int),
(X none).aM H9 kQ (nh+i.toNat*1)=some (int u8 HH) ∧
[int i64 i,int i64 x7.2.1,
int i64
((X none).wrap i64 (x7.2.2.2.1+(X none).wrap i64 ((64:Int)*(X none).wrap i64 ((X none).wrap i64 HH - (192:Int))))),
bool false].length =
4 ∧
∃(mR:AH),
(X none).wr H9 x7.1 0
[int i64 i,int i64 x7.2.1,
int i64
((X none).wrap i64
(x7.2.2.2.1+(X none).wrap i64 ((64:Int)*(X none).wrap i64 ((X none).wrap i64 HH - (192:Int))))),
bool false] =
some mR ∧
∃(Km Kl Jq:Int),
∃(yV:Bool),
(X none).bP mR x7.1 0 4=some [int i64 Km,int i64 Kl,int i64 Jq,bool yV] ∧
Q (agg [int i64 Km,int i64 Kl,int i64 Jq,bool yV]) mR
else
bif x7.2.1 == (3:Int) then
∃(rJ kP:Nat),
(some (b,(0:Nat))=some (rJ,kP)∧(0:Int)≤i∧i<(↑k:Int)) ∧
∃(HG:Int),
(X none).aM H9 rJ (kP+i.toNat*1)=some (int u8 HG) ∧
[int i64 i,int i64 x7.2.1,
int i64
((X none).wrap i64
(x7.2.2.2.1+(X none).wrap i64 ((4096:Int)*(X none).wrap i64 ((X none).wrap i64 HG - (224:Int))))),
bool false].length =
4 ∧
∃(uR:AH),
(X none).wr H9 x7.1 0
[int i64 i,int i64 x7.2.1,
int i64
((X none).wrap i64
(x7.2.2.2.1+(X none).wrap i64 ((4096:Int)*(X none).wrap i64 ((X none).wrap i64 HG - (224:Int))))),
bool false] =
some uR ∧
∃(Kk Ma Jp:Int),
∃(CW:Bool),
(X none).bP uR x7.1 0 4=some [int i64 Kk,int i64 Ma,int i64 Jp,bool CW] ∧
Q (agg [int i64 Kk,int i64 Ma,int i64 Jp,bool CW]) uR
else
bif x7.2.1 == (4:Int) then
∃(oV uN:Nat),
(some (b,(0:Nat))=some (oV,uN)∧(0:Int)≤i∧i<(↑k:Int)) ∧
∃(Ga:Int),
(X none).aM H9 oV (uN+i.toNat*1)=some (int u8 Ga) ∧
[int i64 i,int i64 x7.2.1,
int i64
((X none).wrap i64
(x7.2.2.2.1+(X none).wrap i64 ((262144:Int)*(X none).wrap i64 ((X none).wrap i64 Ga - (240:Int))))),
bool false].length =
4 ∧
∃(mU:AH),
(X none).wr H9 x7.1 0
[int i64 i,int i64 x7.2.1,
int i64
((X none).wrap i64
(x7.2.2.2.1+(X none).wrap i64 ((262144:Int)*(X none).wrap i64 ((X none).wrap i64 Ga - (240:Int))))),
bool false] =
some mU ∧
∃(L9 L8 L7:Int),
∃(Gx:Bool),
(X none).bP mU x7.1 0 4=some [int i64 L9,int i64 L8,int i64 L7,bool Gx] ∧
Q (agg [int i64 L9,int i64 L8,int i64 L7,bool Gx]) mU
else
[int i64 i,int i64 x7.2.1,int i64 x7.2.2.2.1,bool false].length=4 ∧
∃(vl:AH),
(X none).wr H9 x7.1 0 [int i64 i,int i64 x7.2.1,int i64 x7.2.2.2.1,bool false]=some vl ∧
∃(L6 L5 PO:Int),
∃(Gw:Bool),
(X none).bP vl x7.1 0 4=some [int i64 L6,int i64 L5,int i64 PO,bool Gw] ∧
Q (agg [int i64 L6,int i64 L5,int i64 PO,bool Gw]) vl):=by kernel_rfl
theorem EJ (X:Option Nat→aN) (It:FuncId→List AV→List AV→(AH→Prop)→List (List AV)→Prop) (s:List UInt8) (H:AH) (Q:AV→AH→Prop):(oh X It Tryd.prog [⟨4,(Nat×Nat)×(Option (Nat×Nat)×Nat)×Int,[3,4,5],fun x=>[.slice (some (x.1.1,0)) x.1.2 x.1.2,.slice x.2.1.1 x.2.1.2 x.2.1.2,.int .i64 x.2.2],fun _ _ _=>True⟩] [] 70 [.str s] H Q) =
(∃(q1:Option (Nat×Nat)),
∃(k1 k2:Nat),
∃(H1:AH),
(X none).bs 9 39 s H=some (slice q1 k1 k2,H1) ∧
∃(x1:(Nat×Nat)×(Option (Nat×Nat)×Nat)×Int→AH→Nat→Prop),
(∃(x2:(Nat×Nat)×(Option (Nat×Nat)×Nat)×Int),
∃(k3:Nat),
[slice q1 k1 k2,slice none 0 0,int i64 0] =
[slice (some (x2.1.1,0)) x2.1.2 x2.1.2,slice x2.2.1.1 x2.2.1.2 x2.2.1.2,int i64 x2.2.2] ∧
x1 x2 H1 k3) ∧
∀(x3:(Nat×Nat)×(Option (Nat×Nat)×Nat)×Int) (H2:AH) (k4:Nat),
x1 x3 H2 k4 →
bif decide (x3.2.2<(↑x3.1.2:Int)) then
(X none).call 88 [slice (some (x3.1.1,0)) x3.1.2 x3.1.2,int i64 x3.2.2] H2 fun (v1:AV) (H3:AH) =>
∃(n1 n2 n3:Int),
∃(b1:Bool),
v1=agg [int i64 n1,int i64 n2,int i64 n3,bool b1] ∧
[int i64 n1,int i64 n2,int i64 n3,bool b1].length=4 ∧
∃(H4:AH),
(X none).wr ((X none).al H3 (cells [int i64 0,int i64 0,int i64 0,bool false] 138 { whole:=true })) ((X none).n H3) 0
[int i64 n1,int i64 n2,int i64 n3,bool b1] =
some H4 ∧
∃(n4 n5 n6:Int),
∃(b2:Bool),
(X none).bP H4 ((X none).n H3) 0 4=some [int i64 n4,int i64 n5,int i64 n6,bool b2] ∧
(4≤16777216∧4=4∧0<4∧true=true∧true=true) ∧
∃(q2:Option (Nat×Nat)),
∃(k5 k6:Nat),
∃(H5:AH),
(X none).app 121 121 (slice x3.2.1.1 x3.2.1.2 x3.2.1.2) (slice (some ((X none).n H4,0)) 1 1)
((X none).al H4 (cells [int i64 n4,int i64 n5,int i64 n6,bool b2] 138 { whole:=true })) =
some (slice q2 k5 k6,H5) ∧
∃(n7:Int),
(X none).aM H5 ((X none).n H3) 1=some (int i64 n7) ∧
∃(x4:(Nat×Nat)×(Option (Nat×Nat)×Nat)×Int),
∃(k7:Nat),
k7<k4 ∧
[slice (some (x3.1.1,0)) x3.1.2 x3.1.2,slice q2 k5 k6,int i64 ((X none).wrap i64 (x3.2.2+n7))] =
[slice (some (x4.1.1,0)) x4.1.2 x4.1.2,slice x4.2.1.1 x4.2.1.2 x4.2.1.2,int i64 x4.2.2] ∧
x1 x4 H5 k7
else Q (slice x3.2.1.1 x3.2.1.2 x3.2.1.2) H2):=by kernel_rfl
end Go.Proofs.YtlkdhhkncoekgaaDoor
