/- What functions ask (printed). -/
import Derived.Test.YtlkdhhkncoekgaaGreatDoorAmTri
import Derived.Test.YtlkdhhkncoekgaaGreatDoorTabs
namespace Go.Proofs.YtlkdhhkncoekgaaGreatDoor
open Go.Am Go
open _root_.Go.Am.AV (int slice ptr str bool agg tuple)
open _root_.Go.IntKind (i64 i32 u8 u64)
open _root_.Go.Am.aY (cells)
theorem Cf (X:aO) (xf xt xk xv yf yt yk yv:Int) (H:AH) (Q:AV→AH→Prop):(fG X Tryz.prog [] 101 [.agg [.int .i64 xf,.int .i64 xt,.int .i64 xk,.int .i64 xv],.agg [.int .i64 yf,.int .i64 yt,.int .i64 yk,.int .i64 yv]] H Q) =
(true=true ∧
true=true ∧
∃(n1:Int),
X.aM
(X.al (X.al H (cells [int i64 xf,int i64 xt,int i64 xk,int i64 xv] 54 { whole:=true }))
(cells [int i64 yf,int i64 yt,int i64 yk,int i64 yv] 54 { whole:=true }))
(X.n H) 0 =
some (int i64 n1) ∧
∃(n2:Int),
X.aM
(X.al (X.al H (cells [int i64 xf,int i64 xt,int i64 xk,int i64 xv] 54 { whole:=true }))
(cells [int i64 yf,int i64 yt,int i64 yk,int i64 yv] 54 { whole:=true }))
(X.n (X.al H (cells [int i64 xf,int i64 xt,int i64 xk,int i64 xv] 54 { whole:=true }))) 0 =
some (int i64 n2) ∧
∃(n3:Int),
X.aM
(X.al (X.al H (cells [int i64 xf,int i64 xt,int i64 xk,int i64 xv] 54 { whole:=true }))
(cells [int i64 yf,int i64 yt,int i64 yk,int i64 yv] 54 { whole:=true }))
(X.n H) 1 =
some (int i64 n3) ∧
∃(n4:Int),
X.aM
(X.al (X.al H (cells [int i64 xf,int i64 xt,int i64 xk,int i64 xv] 54 { whole:=true }))
(cells [int i64 yf,int i64 yt,int i64 yk,int i64 yv] 54 { whole:=true }))
(X.n (X.al H (cells [int i64 xf,int i64 xt,int i64 xk,int i64 xv] 54 { whole:=true }))) 1 =
some (int i64 n4) ∧
Q (bool (decide (n1≥n2) && decide (n3≤n4)))
(X.al (X.al H (cells [int i64 xf,int i64 xt,int i64 xk,int i64 xv] 54 { whole:=true }))
(cells [int i64 yf,int i64 yt,int i64 yk,int i64 yv] 54 { whole:=true }))):=by kernel_rfl
theorem Ag (X:aO) (xf xt xk xv yf yt yk yv:Int) (H:AH) (Q:AV→AH→Prop):(fG X Tryz.prog [] 58 [.agg [.int .i64 xf,.int .i64 xt,.int .i64 xk,.int .i64 xv],.agg [.int .i64 yf,.int .i64 yt,.int .i64 yk,.int .i64 yv]] H Q) =
(true=true ∧
true=true ∧
∃(n1:Int),
X.aM
(X.al (X.al H (cells [int i64 xf,int i64 xt,int i64 xk,int i64 xv] 54 { whole:=true }))
(cells [int i64 yf,int i64 yt,int i64 yk,int i64 yv] 54 { whole:=true }))
(X.n H) 0 =
some (int i64 n1) ∧
∃(n2:Int),
X.aM
(X.al (X.al H (cells [int i64 xf,int i64 xt,int i64 xk,int i64 xv] 54 { whole:=true }))
(cells [int i64 yf,int i64 yt,int i64 yk,int i64 yv] 54 { whole:=true }))
(X.n (X.al H (cells [int i64 xf,int i64 xt,int i64 xk,int i64 xv] 54 { whole:=true }))) 1 =
some (int i64 n2) ∧
∃(n3:Int),
X.aM
(X.al (X.al H (cells [int i64 xf,int i64 xt,int i64 xk,int i64 xv] 54 { whole:=true }))
(cells [int i64 yf,int i64 yt,int i64 yk,int i64 yv] 54 { whole:=true }))
(X.n (X.al H (cells [int i64 xf,int i64 xt,int i64 xk,int i64 xv] 54 { whole:=true }))) 0 =
some (int i64 n3) ∧
∃(n4:Int),
X.aM
(X.al (X.al H (cells [int i64 xf,int i64 xt,int i64 xk,int i64 xv] 54 { whole:=true }))
(cells [int i64 yf,int i64 yt,int i64 yk,int i64 yv] 54 { whole:=true }))
(X.n H) 1 =
some (int i64 n4) ∧
∃(n5 n6 n7 n8:Int),
X.bC
(X.al (X.al H (cells [int i64 xf,int i64 xt,int i64 xk,int i64 xv] 54 { whole:=true }))
(cells [int i64 yf,int i64 yt,int i64 yk,int i64 yv] 54 { whole:=true }))
(X.n H) 0 4 =
some [int i64 n5,int i64 n6,int i64 n7,int i64 n8] ∧
∃(n9 eK iC j6:Int),
X.bC
(X.al (X.al H (cells [int i64 xf,int i64 xt,int i64 xk,int i64 xv] 54 { whole:=true }))
(cells [int i64 yf,int i64 yt,int i64 yk,int i64 yv] 54 { whole:=true }))
(X.n (X.al H (cells [int i64 xf,int i64 xt,int i64 xk,int i64 xv] 54 { whole:=true }))) 0 4 =
some [int i64 n9,int i64 eK,int i64 iC,int i64 j6] ∧
bif (decide (n1<n2) && decide (n3<n4)) == true then
X.call 101
[agg [int i64 n5,int i64 n6,int i64 n7,int i64 n8],
agg [int i64 n9,int i64 eK,int i64 iC,int i64 j6]]
(X.al (X.al H (cells [int i64 xf,int i64 xt,int i64 xk,int i64 xv] 54 { whole:=true }))
(cells [int i64 yf,int i64 yt,int i64 yk,int i64 yv] 54 { whole:=true }))
fun (v1:AV) (H1:AH) =>
∃(b1:Bool),
v1=bool b1 ∧
∃(kO lD pI qt:Int),
X.bC H1 (X.n (X.al H (cells [int i64 xf,int i64 xt,int i64 xk,int i64 xv] 54 { whole:=true }))) 0 4 =
some [int i64 kO,int i64 lD,int i64 pI,int i64 qt] ∧
∃(sX vt yL wJ:Int),
X.bC H1 (X.n H) 0 4=some [int i64 sX,int i64 vt,int i64 yL,int i64 wJ] ∧
bif (!b1) == true then
X.call 101
[agg [int i64 kO,int i64 lD,int i64 pI,int i64 qt],
agg [int i64 sX,int i64 vt,int i64 yL,int i64 wJ]]
H1 fun (v2:AV) (H2:AH)=>∃(b2:Bool),v2=bool b2∧Q (bool !b2) H2
else Q (bool false) H1
else
∃(BQ D5 CN FE:Int),
X.bC
(X.al (X.al H (cells [int i64 xf,int i64 xt,int i64 xk,int i64 xv] 54 { whole:=true }))
(cells [int i64 yf,int i64 yt,int i64 yk,int i64 yv] 54 { whole:=true }))
(X.n (X.al H (cells [int i64 xf,int i64 xt,int i64 xk,int i64 xv] 54 { whole:=true }))) 0 4 =
some [int i64 BQ,int i64 D5,int i64 CN,int i64 FE] ∧
∃(FD FC DZ DY:Int),
X.bC
(X.al (X.al H (cells [int i64 xf,int i64 xt,int i64 xk,int i64 xv] 54 { whole:=true }))
(cells [int i64 yf,int i64 yt,int i64 yk,int i64 yv] 54 { whole:=true }))
(X.n H) 0 4 =
some [int i64 FD,int i64 FC,int i64 DZ,int i64 DY] ∧
Q (bool false)
(X.al (X.al H (cells [int i64 xf,int i64 xt,int i64 xk,int i64 xv] 54 { whole:=true }))
(cells [int i64 yf,int i64 yt,int i64 yk,int i64 yv] 54 { whole:=true }))):=by kernel_rfl
theorem E4 (X:aO) (xf xt xk xv:Int) (n:Int) (H:AH) (Q:AV→AH→Prop):(fG X Tryz.prog [] 55 [.agg [.int .i64 xf,.int .i64 xt,.int .i64 xk,.int .i64 xv],.int .i64 n] H Q) =
(true=true ∧
∃(n1:Int),
X.aM (X.al H (cells [int i64 xf,int i64 xt,int i64 xk,int i64 xv] 54 { whole:=true })) (X.n H) 0=some (int i64 n1) ∧
∃(n2:Int),
X.aM (X.al H (cells [int i64 xf,int i64 xt,int i64 xk,int i64 xv] 54 { whole:=true })) (X.n H) 1=some (int i64 n2) ∧
∃(n3:Int),
X.aM (X.al H (cells [int i64 xf,int i64 xt,int i64 xk,int i64 xv] 54 { whole:=true })) (X.n H) 0=some (int i64 n3) ∧
∃(n4:Int),
X.aM (X.al H (cells [int i64 xf,int i64 xt,int i64 xk,int i64 xv] 54 { whole:=true })) (X.n H) 1=some (int i64 n4) ∧
∃(n5:Int),
X.aM (X.al H (cells [int i64 xf,int i64 xt,int i64 xk,int i64 xv] 54 { whole:=true })) (X.n H) 2=some (int i64 n5) ∧
∃(n6:Int),
X.aM (X.al H (cells [int i64 xf,int i64 xt,int i64 xk,int i64 xv] 54 { whole:=true })) (X.n H) 2=some (int i64 n6) ∧
bif decide (n1<(0:Int)) || decide (n2≤n3) || decide (n4 > n) || decide (n5<(1:Int)) || decide (n6 > (5:Int)) then
Q (bool false) (X.al H (cells [int i64 xf,int i64 xt,int i64 xk,int i64 xv] 54 { whole:=true }))
else
∃(n7:Int),
X.aM (X.al H (cells [int i64 xf,int i64 xt,int i64 xk,int i64 xv] 54 { whole:=true })) (X.n H) 2=some (int i64 n7) ∧
bif n7 == (5:Int) then
∃(n8:Int),
X.aM (X.al H (cells [int i64 xf,int i64 xt,int i64 xk,int i64 xv] 54 { whole:=true })) (X.n H) 3=some (int i64 n8) ∧
∃(n9:Int),
X.aM (X.al H (cells [int i64 xf,int i64 xt,int i64 xk,int i64 xv] 54 { whole:=true })) (X.n H) 3=some (int i64 n9) ∧
Q (bool (decide (n8≥(0:Int)) && decide (n9≤(16777215:Int))))
(X.al H (cells [int i64 xf,int i64 xt,int i64 xk,int i64 xv] 54 { whole:=true }))
else
∃(eK:Int),
X.aM (X.al H (cells [int i64 xf,int i64 xt,int i64 xk,int i64 xv] 54 { whole:=true })) (X.n H) 3=some (int i64 eK) ∧
Q (bool (eK == (0:Int))) (X.al H (cells [int i64 xf,int i64 xt,int i64 xk,int i64 xv] 54 { whole:=true }))):=by kernel_rfl
theorem HD (X:aO) (p:Nat) (xf xt xk xv:Int) (H:AH) (Q:AV→AH→Prop):(fG X Tryz.prog [] 57 [.agg [.int .i64 xf,.int .i64 xt,.int .i64 xk,.int .i64 xv],.ptr (some (p,0))] H Q) =
(true=true ∧
∃(n1 n2 n3 n4:Int),
X.bC (X.al H (cells [int i64 xf,int i64 xt,int i64 xk,int i64 xv] 54 { whole:=true })) p 0 4 =
some [int i64 n1,int i64 n2,int i64 n3,int i64 n4] ∧
∃(n5 n6 n7 n8:Int),
X.bC (X.al H (cells [int i64 xf,int i64 xt,int i64 xk,int i64 xv] 54 { whole:=true })) (X.n H) 0 4 =
some [int i64 n5,int i64 n6,int i64 n7,int i64 n8] ∧
X.call 58
[agg [int i64 n1,int i64 n2,int i64 n3,int i64 n4],agg [int i64 n5,int i64 n6,int i64 n7,int i64 n8]]
(X.al H (cells [int i64 xf,int i64 xt,int i64 xk,int i64 xv] 54 { whole:=true })) fun (v1:AV) (H1:AH) =>
∃(b1:Bool),v1=bool b1∧Q (bool b1) H1):=by kernel_rfl
theorem KD (X:Option Nat→aO) (It:FuncId→List AV→List AV→(AH→Prop)→List (List AV)→Prop) (q:Option (Nat×Nat)) (k c p:Nat) (H:AH) (Q:AV→AH→Prop):(nx X It Tryz.prog [⟨2,Int,[0,1,7,8],fun x=>[.slice q k c,.func (.func 57) [] [.ptr (some (p,0))],.int .i64 k,.int .i64 x],fun _ _ _=>True⟩] [] 100 [.slice q k c,.func (.func 57) [] [.ptr (some (p,0))]] H Q) =
(∃(x1:Int→AH→Nat→Prop),
(∃(n1:Int),
∃(k1:Nat),
[slice q k c,AV.func (Fn.func (57:FuncId)) [] [ptr (some (p,(0:Nat)))],int i64 (↑k:Int),int i64 0] =
[slice q k c,AV.func (Fn.func (57:FuncId)) [] [ptr (some (p,(0:Nat)))],int i64 (↑k:Int),int i64 n1] ∧
x1 n1 H k1) ∧
∀(n2:Int) (H1:AH) (k2:Nat),
x1 n2 H1 k2 →
bif decide (n2<(↑k:Int)) then
∃(k3 k4:Nat),
(q=some (k3,k4)∧(0:Int)≤n2∧n2<(↑k:Int)) ∧
∃(n3 n4 n5 n6:Int),
(X none).bC H1 k3 (k4+n2.toNat*4) 4=some [int i64 n3,int i64 n4,int i64 n5,int i64 n6] ∧
(X none).call (57:FuncId) [agg [int i64 n3,int i64 n4,int i64 n5,int i64 n6],ptr (some (p,0))] H1 fun (v1:AV) (H2:AH) =>
∃(b1:Bool),
v1=bool b1 ∧
bif b1 then Q (int i64 n2) H2
else
∃(n7:Int),
∃(k5:Nat),
k5<k2 ∧
[slice q k c,AV.func (Fn.func (57:FuncId)) [] [ptr (some (p,(0:Nat)))],int i64 (↑k:Int),int i64 ((X none).wrap i64 (n2+(1:Int)))] =
[slice q k c,AV.func (Fn.func (57:FuncId)) [] [ptr (some (p,(0:Nat)))],int i64 (↑k:Int),int i64 n7] ∧
x1 n7 H2 k5
else Q (int i64 (-1:Int)) H1):=by kernel_rfl
theorem HB (X:aO) (q:Option (Nat×Nat)) (k c p:Nat) (H:AH) (Q:AV→AH→Prop):(fG X Tryz.prog [] 56 [.slice q k c,.func (.func 57) [] [.ptr (some (p,0))]] H Q) =
(X.call 100 [slice q k c,AV.func (Fn.func (57:FuncId)) [] [ptr (some (p,0))]] H fun (v1:AV) (H1:AH)=>∃(n1:Int),v1=int i64 n1∧Q (bool (decide (n1≥(0:Int)))) H1):=by kernel_rfl
theorem E8 (X:Option Nat→aO) (It:FuncId→List AV→List AV→(AH→Prop)→List (List AV)→Prop) (s:List UInt8) (q:Option (Nat×Nat)) (k c:Nat) (H:AH) (Q:AV→AH→Prop):(nx X It Tryz.prog [⟨7,Nat×Int×(Option (Nat×Nat)×Nat×Nat)×Int×Int,[1,3,20,21,22],fun x=>[.ptr (some (x.1,0)),.int .i64 x.2.1,.slice x.2.2.1.1 x.2.2.1.2.1 x.2.2.1.2.2,.int .i64 x.2.2.2.1,.int .i64 x.2.2.2.2],fun _ _ _=>True⟩,⟨200010,(Nat×Int×(Option (Nat×Nat)×Nat×Nat)×Int×Int)×Bool,[1,3,20,21,22,38],fun x=>[.ptr (some (x.1.1,0)),.int .i64 x.1.2.1,.slice x.1.2.2.1.1 x.1.2.2.1.2.1 x.1.2.2.1.2.2,.int .i64 x.1.2.2.2.1,.int .i64 x.1.2.2.2.2,.bool x.2],fun _ _ _=>True⟩] [] 23 [.agg [.str s,.slice q k c]] H Q) =
(true=true ∧
∃(s1:List UInt8),
(X none).aM ((X none).al H (cells [str s,slice q k c] 24 { whole:=true })) ((X none).n H) 0=some (str s1) ∧
bif decide ((↑s1.length:Int) > (4096:Int)) then Q (int i64 3) ((X none).al H (cells [str s,slice q k c] (24:Nat) { whole:=true }))
else
∃(q1:Option (Nat×Nat)),
∃(k1 k2:Nat),
(X none).aM ((X none).al H (cells [str s,slice q k c] 24 { whole:=true })) ((X none).n H) 1=some (slice q1 k1 k2) ∧
bif decide ((↑k1:Int) > (256:Int)) then Q (int i64 2) ((X none).al H (cells [str s,slice q k c] (24:Nat) { whole:=true }))
else
∃(s2:List UInt8),
(X none).aM ((X none).al H (cells [str s,slice q k c] 24 { whole:=true })) ((X none).n H) 0=some (str s2) ∧
(X none).call 54 [str s2] ((X none).al H (cells [str s,slice q k c] 24 { whole:=true })) fun (v1:AV) (H1:AH) =>
∃(n1:Int),
v1=int i64 n1 ∧
∃(q2:Option (Nat×Nat)),
∃(k3 k4:Nat),
(X none).aM H1 ((X none).n H) 1=some (slice q2 k3 k4) ∧
∃(x1:Nat×Int×(Option (Nat×Nat)×Nat×Nat)×Int×Int→AH→Nat→Prop),
(∃(x2:Nat×Int×(Option (Nat×Nat)×Nat×Nat)×Int×Int),
∃(k5:Nat),
[ptr (some ((X none).n H,(0:Nat))),int i64 n1,slice q2 k3 k4,int i64 (↑k3:Int),int i64 0] =
[ptr (some (x2.1,0)),int i64 x2.2.1,slice x2.2.2.1.1 x2.2.2.1.2.1 x2.2.2.1.2.2,int i64 x2.2.2.2.1,
int i64 x2.2.2.2.2] ∧
x1 x2 H1 k5) ∧
∀(x3:Nat×Int×(Option (Nat×Nat)×Nat×Nat)×Int×Int) (H2:AH) (k6:Nat),
x1 x3 H2 k6 →
bif decide (x3.2.2.2.2<x3.2.2.2.1) then
∃(k7 k8:Nat),
(x3.2.2.1.1=some (k7,k8)∧(0:Int)≤x3.2.2.2.2∧x3.2.2.2.2<(↑x3.2.2.1.2.1:Int)) ∧
∃(n2 n3 n4 n5:Int),
(X none).bC H2 k7 (k8+x3.2.2.2.2.toNat*4) 4=some [int i64 n2,int i64 n3,int i64 n4,int i64 n5] ∧
[int i64 n2,int i64 n3,int i64 n4,int i64 n5].length=4 ∧
∃(H3:AH),
(X none).wr
((X none).al H2
(cells [int i64 0,int i64 0,int i64 0,int i64 0] 54 { whole:=true }))
((X none).n H2) 0 [int i64 n2,int i64 n3,int i64 n4,int i64 n5] =
some H3 ∧
∃(x4:(Nat×Int×(Option (Nat×Nat)×Nat×Nat)×Int×Int)×Bool→AH→Prop),
(∃(n6 n7 n8 n9:Int),
(X none).bC H3 ((X none).n H2) 0 4=some [int i64 n6,int i64 n7,int i64 n8,int i64 n9] ∧
(X none).call 55 [agg [int i64 n6,int i64 n7,int i64 n8,int i64 n9],int i64 x3.2.1]
H3 fun (v2:AV) (H4:AH) =>
∃(b1:Bool),
v2=bool b1 ∧
∃(q3:Option (Nat×Nat)),
∃(k9 jb:Nat),
(X none).aM H4 x3.1 1=some (slice q3 k9 jb) ∧
∃(q4:Option (Nat×Nat)),
∃(fN iq:Nat),
(((!b1) == false)=true →
(X none).Hp 22 (slice q3 k9 jb) none (some (int i64 x3.2.2.2.2)) none H4 =
some (slice q4 fN iq)) ∧
bif (!b1) == false then
(X none).call 56 [slice q4 fN iq,AV.func (Fn.func 57) [] [ptr (some ((X none).n H2,0))]] H4
fun (v3:AV) (H5:AH) =>
∃(b2:Bool),
v3=bool b2 ∧
∃(x5:(Nat×Int×(Option (Nat×Nat)×Nat×Nat)×Int×Int)×Bool),
∃(_k13:Nat),
True ∧
[ptr (some (x3.1,0)),int i64 x3.2.1,
slice x3.2.2.1.1 x3.2.2.1.2.1 x3.2.2.1.2.2,int i64 x3.2.2.2.1,
int i64 x3.2.2.2.2,bool b2] =
[ptr (some (x5.1.1,0)),int i64 x5.1.2.1,
slice x5.1.2.2.1.1 x5.1.2.2.1.2.1 x5.1.2.2.1.2.2,
int i64 x5.1.2.2.2.1,int i64 x5.1.2.2.2.2,bool x5.2] ∧
x4 x5 H5
else
∃(x6:(Nat×Int×(Option (Nat×Nat)×Nat×Nat)×Int×Int)×Bool),
∃(_k14:Nat),
True ∧
[ptr (some (x3.1,0)),int i64 x3.2.1,
slice x3.2.2.1.1 x3.2.2.1.2.1 x3.2.2.1.2.2,int i64 x3.2.2.2.1,
int i64 x3.2.2.2.2,bool true] =
[ptr (some (x6.1.1,0)),int i64 x6.1.2.1,
slice x6.1.2.2.1.1 x6.1.2.2.1.2.1 x6.1.2.2.1.2.2,
int i64 x6.1.2.2.2.1,int i64 x6.1.2.2.2.2,bool x6.2] ∧
x4 x6 H4) ∧
∀(x7:(Nat×Int×(Option (Nat×Nat)×Nat×Nat)×Int×Int)×Bool) (H6:AH),
x4 x7 H6 →
bif x7.2 then Q (int i64 23) H6
else
∃(x8:Nat×Int×(Option (Nat×Nat)×Nat×Nat)×Int×Int),
∃(jr:Nat),
jr<k6 ∧
[ptr (some (x7.1.1,0)),int i64 x7.1.2.1,
slice x7.1.2.2.1.1 x7.1.2.2.1.2.1 x7.1.2.2.1.2.2,int i64 x7.1.2.2.2.1,
int i64 ((X none).wrap i64 (x7.1.2.2.2.2+(1:Int)))] =
[ptr (some (x8.1,0)),int i64 x8.2.1,slice x8.2.2.1.1 x8.2.2.1.2.1 x8.2.2.1.2.2,
int i64 x8.2.2.2.1,int i64 x8.2.2.2.2] ∧
x1 x8 H6 jr
else Q (int i64 0) H2):=by kernel_rfl
theorem Cj (X:aO)  (H:AH) (Q:AV→AH→Prop):(fG X Tryz.prog [] 126 [.slice none 0 0] H Q) =
(Q (slice none 0 0) H):=by kernel_rfl
theorem E7 (X:aO) (b k c:Nat) (H:AH) (Q:AV→AH→Prop):(fG X Tryz.prog [] 126 [.slice (some (b,0)) k c] H Q) =
((0≤16777216∧4=4∧0<4∧true=true∧true=true) ∧
∃(q1:Option (Nat×Nat)),
∃(k1 k2:Nat),
∃(H1:AH),
X.app 22 22 (slice (some (X.n H,0)) 0 0) (slice (some (b,0)) k c) (X.al H (cells [] 54 { whole:=true }))=some (slice q1 k1 k2,H1) ∧
Q (slice q1 k1 k2) H1):=by kernel_rfl
theorem E5 (X:aO) (s:List UInt8) (q:Option (Nat×Nat)) (k c:Nat) (H:AH) (Q:AV→AH→Prop):(fG X Tryz.prog [] 102 [.agg [.str s,.slice q k c]] H Q) =
(true=true ∧
∃(q1:Option (Nat×Nat)),
∃(k1 k2:Nat),
X.aM (X.al H (cells [str s,slice q k c] 24 { whole:=true })) (X.n H) 1=some (slice q1 k1 k2) ∧
X.call 126 [slice q1 k1 k2] (X.al H (cells [str s,slice q k c] 24 { whole:=true })) fun (v1:AV) (H1:AH) =>
∃(q2:Option (Nat×Nat)),∃(k3:Nat),∃(k4:Nat),v1=slice q2 k3 k4∧X.call 127 [slice q2 k3 k4,AV.func (Fn.func 128) [] []] H1 fun (_v2:AV) (H2:AH)=>Q (slice q2 k3 k4) H2):=by kernel_rfl
theorem Ch (X:aO) (xf xt xk xv yf yt yk yv:Int) (H:AH) (Q:AV→AH→Prop):(fG X Tryz.prog [] 128 [.agg [.int .i64 xf,.int .i64 xt,.int .i64 xk,.int .i64 xv],.agg [.int .i64 yf,.int .i64 yt,.int .i64 yk,.int .i64 yv]] H Q) =
(true=true ∧
true=true ∧
∃(n1:Int),
X.aM
(X.al (X.al H (cells [int i64 xf,int i64 xt,int i64 xk,int i64 xv] 54 { whole:=true }))
(cells [int i64 yf,int i64 yt,int i64 yk,int i64 yv] 54 { whole:=true }))
(X.n H) 0 =
some (int i64 n1) ∧
∃(n2:Int),
X.aM
(X.al (X.al H (cells [int i64 xf,int i64 xt,int i64 xk,int i64 xv] 54 { whole:=true }))
(cells [int i64 yf,int i64 yt,int i64 yk,int i64 yv] 54 { whole:=true }))
(X.n (X.al H (cells [int i64 xf,int i64 xt,int i64 xk,int i64 xv] 54 { whole:=true }))) 0 =
some (int i64 n2) ∧
∃(n3:Int),
X.aM
(X.al (X.al H (cells [int i64 xf,int i64 xt,int i64 xk,int i64 xv] 54 { whole:=true }))
(cells [int i64 yf,int i64 yt,int i64 yk,int i64 yv] 54 { whole:=true }))
(X.n (X.al H (cells [int i64 xf,int i64 xt,int i64 xk,int i64 xv] 54 { whole:=true }))) 1 =
some (int i64 n3) ∧
∃(n4:Int),
X.aM
(X.al (X.al H (cells [int i64 xf,int i64 xt,int i64 xk,int i64 xv] 54 { whole:=true }))
(cells [int i64 yf,int i64 yt,int i64 yk,int i64 yv] 54 { whole:=true }))
(X.n H) 1 =
some (int i64 n4) ∧
X.call 130 [int i64 n1,int i64 n2]
(X.al (X.al H (cells [int i64 xf,int i64 xt,int i64 xk,int i64 xv] 54 { whole:=true }))
(cells [int i64 yf,int i64 yt,int i64 yk,int i64 yv] 54 { whole:=true }))
fun (v1:AV) (H1:AH) =>
∃(n5:Int),
v1=int i64 n5 ∧
(∃(n6:Int),X.aM H1 (X.n H) 1=some (int i64 n6)∧int i64 n6=int i64 n4) ∧
(∃(n7:Int),
X.aM H1 (X.n (X.al H (cells [int i64 xf,int i64 xt,int i64 xk,int i64 xv] 54 { whole:=true }))) 1=some (int i64 n7) ∧
int i64 n7=int i64 n3) ∧
X.call 130 [int i64 n3,int i64 n4] H1 fun (v2:AV) (H2:AH) =>
∃(n8:Int),
v2=int i64 n8 ∧
(2≤16777216∧1=1∧0<1∧true=true∧true=true) ∧
X.call 129 [slice (some (X.n H2,0)) 2 2] (X.al H2 (cells [int i64 n5,int i64 n8] 3 { whole:=true })) fun (v3:AV) (H3:AH) =>
∃(n9:Int),v3=int i64 n9∧Q (int i64 n9) H3):=by kernel_rfl
theorem KC (X:aO) (b o:Nat) (xf xt xk xv:Int) (H:AH) (Q:AV→AH→Prop):(fG X Tryz.prog [] 103 [.ptr (some (b,o)),.agg [.int .i64 xf,.int .i64 xt,.int .i64 xk,.int .i64 xv]] H Q) =
(true=true ∧
∃(n1:Int),
X.aM (X.al H (cells [int i64 xf,int i64 xt,int i64 xk,int i64 xv] 54 { whole:=true })) (X.n H) 2=some (int i64 n1) ∧
bif n1 == (1:Int) then
1=1 ∧
∃(H1:AH),X.wr (X.al H (cells [int i64 xf,int i64 xt,int i64 xk,int i64 xv] 54 { whole:=true })) b (o+0) [bool true]=some H1∧Q (tuple []) H1
else
bif n1 == (2:Int) then
1=1 ∧
∃(H2:AH),X.wr (X.al H (cells [int i64 xf,int i64 xt,int i64 xk,int i64 xv] 54 { whole:=true })) b (o+1) [bool true]=some H2∧Q (tuple []) H2
else
bif n1 == (3:Int) then
1=1 ∧
∃(H3:AH),X.wr (X.al H (cells [int i64 xf,int i64 xt,int i64 xk,int i64 xv] 54 { whole:=true })) b (o+2) [bool true]=some H3∧Q (tuple []) H3
else
bif n1 == (4:Int) then
1=1 ∧
∃(H4:AH),
X.wr (X.al H (cells [int i64 xf,int i64 xt,int i64 xk,int i64 xv] 54 { whole:=true })) b (o+3) [bool true]=some H4∧Q (tuple []) H4
else
∃(n2:Int),
X.aM (X.al H (cells [int i64 xf,int i64 xt,int i64 xk,int i64 xv] 54 { whole:=true })) (X.n H) 3=some (int i64 n2) ∧
[int i64 (X.wrap i64 (n2+(1:Int)))].length=1 ∧
∃(H5:AH),
X.wr (X.al H (cells [int i64 xf,int i64 xt,int i64 xk,int i64 xv] 54 { whole:=true })) b (o+4)
[int i64 (X.wrap i64 (n2+(1:Int)))] =
some H5 ∧
Q (tuple []) H5):=by kernel_rfl
theorem Gk (X:Option Nat→aO) (It:FuncId→List AV→List AV→(AH→Prop)→List (List AV)→Prop) (bk:Nat) (H:AH) (Q:AV→AH→Prop):(nx X It Tryz.prog [⟨3,Int,[3,6,7,8],fun x=>[.int .i64 0,.slice (some (bk,0)) 2 2,.int .i64 2,.int .i64 x],fun _ _ _=>True⟩] [] 129 [.slice (some (bk,0)) 2 2] H Q) =
(∃(x1:Int→AH→Nat→Prop),
(∃(n1:Int),
∃(k1:Nat),
[int i64 0,slice (some (bk,0)) 2 2,int i64 2,int i64 0] =
[int i64 0,slice (some (bk,0)) 2 2,int i64 2,int i64 n1] ∧
x1 n1 H k1) ∧
∀(n2:Int) (H1:AH) (k2:Nat),
x1 n2 H1 k2 →
bif decide (n2<(2:Int)) then
∃(k3 k4:Nat),
(some (bk,0)=some (k3,k4)∧(0:Int)≤n2∧n2<(2:Int)) ∧
∃(n3:Int),
(X none).aM H1 k3 (k4+n2.toNat*1)=some (int i64 n3) ∧
bif n3 != (0:Int) then Q (int i64 n3) H1
else
∃(n4:Int),
∃(k5:Nat),
k5<k2 ∧
[int i64 0,slice (some (bk,0)) 2 2,int i64 2,int i64 ((X none).wrap i64 (n2+(1:Int)))] =
[int i64 0,slice (some (bk,0)) 2 2,int i64 2,int i64 n4] ∧
x1 n4 H1 k5
else Q (int i64 0) H1):=by kernel_rfl
theorem E6 (X:Option Nat→aO) (It:FuncId→List AV→List AV→(AH→Prop)→List (List AV)→Prop) (s:List UInt8) (q:Option (Nat×Nat)) (k c:Nat) (H:AH) (Q:AV→AH→Prop):(nx X It Tryz.prog [⟨3,(Option (Nat×Nat)×Nat)×(Option (Nat×Nat)×Nat)×Int×Int,[3,12,13,14],fun x=>[.slice x.1.1 x.1.2 x.1.2,.slice x.2.1.1 x.2.1.2 x.2.1.2,.int .i64 x.2.2.1,.int .i64 x.2.2.2],fun _ _ _=>True⟩,⟨6,((Option (Nat×Nat)×Nat)×(Option (Nat×Nat)×Nat)×Int×Int)×Nat×Int,[3,12,13,14,5,6],fun x=>[.slice x.1.1.1 x.1.1.2 x.1.1.2,.slice x.1.2.1.1 x.1.2.1.2 x.1.2.1.2,.int .i64 x.1.2.2.1,.int .i64 x.1.2.2.2,.ptr (some (x.2.1,0)),.int .i64 x.2.2],fun _ _ _=>True⟩] [] 60 [.agg [.str s,.slice q k c]] H Q) =
(true=true ∧
∃(s1:List UInt8),
(X none).aM ((X none).al H (cells [str s,slice q k c] 24 { whole:=true })) ((X none).n H) 0=some (str s1) ∧
(X none).call 54 [str s1] ((X none).al H (cells [str s,slice q k c] 24 { whole:=true })) fun (v1:AV) (H1:AH) =>
∃(n1:Int),
v1=int i64 n1 ∧
∃(q1:Option (Nat×Nat)),
∃(k1 k2:Nat),
∃(H2:AH),
(X none).Px 83 n1 n1 H1=some (slice q1 k1 k2,H2) ∧
∃(s2:List UInt8),
∃(q2:Option (Nat×Nat)),
∃(k3 k4:Nat),
(X none).bC H2 ((X none).n H) 0 2=some [str s2,slice q2 k3 k4] ∧
(X none).call 102 [agg [str s2,slice q2 k3 k4]] H2 fun (v2:AV) (H3:AH) =>
∃(q3:Option (Nat×Nat)),
∃(k5 k6:Nat),
v2=slice q3 k5 k6 ∧
∃(x1:(Option (Nat×Nat)×Nat)×(Option (Nat×Nat)×Nat)×Int×Int→AH→Nat→Prop),
(∃(x2:(Option (Nat×Nat)×Nat)×(Option (Nat×Nat)×Nat)×Int×Int),
∃(k7:Nat),
[slice q1 k1 k2,slice q3 k5 k6,int i64 (↑k5:Int),int i64 0] =
[slice x2.1.1 x2.1.2 x2.1.2,slice x2.2.1.1 x2.2.1.2 x2.2.1.2,int i64 x2.2.2.1,int i64 x2.2.2.2] ∧
x1 x2 H3 k7) ∧
∀(x3:(Option (Nat×Nat)×Nat)×(Option (Nat×Nat)×Nat)×Int×Int) (H4:AH) (k8:Nat),
x1 x3 H4 k8 →
bif decide (x3.2.2.2<x3.2.2.1) then
∃(k9 jb:Nat),
(x3.2.1.1=some (k9,jb)∧(0:Int)≤x3.2.2.2∧x3.2.2.2<(↑x3.2.1.2:Int)) ∧
∃(n2 n3 n4 n5:Int),
(X none).bC H4 k9 (jb+x3.2.2.2.toNat*4) 4=some [int i64 n2,int i64 n3,int i64 n4,int i64 n5] ∧
[int i64 n2,int i64 n3,int i64 n4,int i64 n5].length=4 ∧
∃(H5:AH),
(X none).wr
((X none).al H4
(cells [int i64 0,int i64 0,int i64 0,int i64 0] 54
{ whole:=true }))
((X none).n H4) 0 [int i64 n2,int i64 n3,int i64 n4,int i64 n5] =
some H5 ∧
∃(n6:Int),
(X none).aM H5 ((X none).n H4) 0=some (int i64 n6) ∧
∃(x4:((Option (Nat×Nat)×Nat)×(Option (Nat×Nat)×Nat)×Int×Int)×Nat×Int→AH→Nat→Prop),
(∃(x5:((Option (Nat×Nat)×Nat)×(Option (Nat×Nat)×Nat)×Int×Int)×Nat×Int),
∃(fN:Nat),
[slice x3.1.1 x3.1.2 x3.1.2,slice x3.2.1.1 x3.2.1.2 x3.2.1.2,int i64 x3.2.2.1,
int i64 x3.2.2.2,ptr (some ((X none).n H4,0)),int i64 n6] =
[slice x5.1.1.1 x5.1.1.2 x5.1.1.2,slice x5.1.2.1.1 x5.1.2.1.2 x5.1.2.1.2,
int i64 x5.1.2.2.1,int i64 x5.1.2.2.2,ptr (some (x5.2.1,0)),
int i64 x5.2.2] ∧
x4 x5 H5 fN) ∧
∀(x6:((Option (Nat×Nat)×Nat)×(Option (Nat×Nat)×Nat)×Int×Int)×Nat×Int) (H6:AH) (iq:Nat),
x4 x6 H6 iq →
∃(n7:Int),
(X none).aM H6 x6.2.1 1=some (int i64 n7) ∧
bif decide (x6.2.2<n7) then
∃(jM iD:Nat),
(x6.1.1.1=some (jM,iD)∧(0:Int)≤x6.2.2∧x6.2.2<(↑x6.1.1.2:Int)) ∧
∃(n8 n9 eK iC:Int),
(X none).bC H6 x6.2.1 0 4 =
some [int i64 n8,int i64 n9,int i64 eK,int i64 iC] ∧
(X none).call 103
[ptr (some (jM,iD+x6.2.2.toNat*5)),
agg [int i64 n8,int i64 n9,int i64 eK,int i64 iC]]
H6 fun (_v3:AV) (H7:AH) =>
∃(x7:((Option (Nat×Nat)×Nat)×(Option (Nat×Nat)×Nat)×Int×Int)×Nat×Int),
∃(jr:Nat),
jr<iq ∧
[slice x6.1.1.1 x6.1.1.2 x6.1.1.2,slice x6.1.2.1.1 x6.1.2.1.2 x6.1.2.1.2,
int i64 x6.1.2.2.1,int i64 x6.1.2.2.2,ptr (some (x6.2.1,0)),
int i64 ((X none).wrap i64 (x6.2.2+(1:Int)))] =
[slice x7.1.1.1 x7.1.1.2 x7.1.1.2,
slice x7.1.2.1.1 x7.1.2.1.2 x7.1.2.1.2,int i64 x7.1.2.2.1,
int i64 x7.1.2.2.2,ptr (some (x7.2.1,0)),int i64 x7.2.2] ∧
x4 x7 H7 jr
else
∃(x8:(Option (Nat×Nat)×Nat)×(Option (Nat×Nat)×Nat)×Int×Int),
∃(m6:Nat),
m6<k8 ∧
[slice x6.1.1.1 x6.1.1.2 x6.1.1.2,slice x6.1.2.1.1 x6.1.2.1.2 x6.1.2.1.2,
int i64 x6.1.2.2.1,int i64 ((X none).wrap i64 (x6.1.2.2.2+(1:Int)))] =
[slice x8.1.1 x8.1.2 x8.1.2,slice x8.2.1.1 x8.2.1.2 x8.2.1.2,int i64 x8.2.2.1,
int i64 x8.2.2.2] ∧
x1 x8 H6 m6
else Q (slice x3.1.1 x3.1.2 x3.1.2) H4):=by kernel_rfl
theorem EZ (X:aO) (s:List UInt8) (q:Option (Nat×Nat)) (k c:Nat) (H:AH) (Q:AV→AH→Prop):(fG X Tryz.prog [] 24 [.agg [.str s,.slice q k c]] H Q) =
(true=true ∧
∃(s1:List UInt8),
∃(q1:Option (Nat×Nat)),
∃(k1 k2:Nat),
X.bC (X.al H (cells [str s,slice q k c] 24 { whole:=true })) (X.n H) 0 2=some [str s1,slice q1 k1 k2] ∧
X.call 23 [agg [str s1,slice q1 k1 k2]] (X.al H (cells [str s,slice q k c] 24 { whole:=true })) fun (v1:AV) (H1:AH) =>
∃(n1:Int),
v1=int i64 n1 ∧
bif n1 != (0:Int) then Q (AV.func (Fn.func 59) [] []) H1
else
∃(s2:List UInt8),
∃(q2:Option (Nat×Nat)),
∃(k3 k4:Nat),
X.bC H1 (X.n H) 0 2=some [str s2,slice q2 k3 k4] ∧
X.call 60 [agg [str s2,slice q2 k3 k4]] H1 fun (v2:AV) (H2:AH) =>
∃(q3:Option (Nat×Nat)),
∃(k5 k6:Nat),
v2=slice q3 k5 k6 ∧
[slice q3 k5 k6].length=1 ∧
∃(H3:AH),
X.wr (X.al H2 (cells [slice none 0 0] 83 { whole:=true })) (X.n H2) 0 [slice q3 k5 k6]=some H3 ∧
Q (AV.func (Fn.func 61) [] [ptr (some (X.n H,0)),ptr (some (X.n H2,0))]) H3):=by kernel_rfl
theorem Cg (X:Option Nat→aO) (It:FuncId→List AV→List AV→(AH→Prop)→List (List AV)→Prop) (b p r:Nat) (H:AH) (Q:AV→AH→Prop) (xs:List (Int×Int×Int×Bool)) (cap:AV→AH→Prop) (I:Nat→List Nat→AH→Prop) (S:dy→List Nat→AH→Prop):(nx X It Tryz.prog [] [⟨3,AV,Int×Int×Int×Bool,104,fun z=>([],[z]),fun x=>[.agg [.int .i64 x.1,.int .i64 x.2.1,.int .i32 x.2.2.1,.bool x.2.2.2]],fun _=>xs,cap,fun _=>I,[.ret],fun _=>S⟩] 61 [.cY b,.ptr (some (p,0)),.ptr (some (r,0))] H Q) =
(true=true ∧
1=1 ∧
∃(H1:AH),
(X none).wr ((X none).al ((X none).al H (cells [AV.cY b] 108 { whole:=true })) (cells [int i64 0] 3 { whole:=true }))
((X none).n ((X none).al H (cells [AV.cY b] 108 { whole:=true }))) 0 [int i64 0] =
some H1 ∧
∃(s1:List UInt8),
(X none).aM H1 p 0=some (str s1) ∧
(X none).call 62 [str s1] H1 fun (v1:AV) (H2:AH) =>
∃(v2:AV),
v1=v2 ∧
∃(v3:AV),
v2=AV.func (Fn.func (nat_lit 104)) [] [v3] ∧
It (nat_lit 104) [] [v3] (fun (H3:AH)=>cap v3 H3)
(List.map (fun (x:Int×Int×Int×Bool)=>[agg [int i64 x.1,int i64 x.2.1,int i32 x.2.2.1,bool x.2.2.2]]) xs) ∧
(tq (fun (k1:Nat) (V1:List Nat) (H4:AH)=>I k1 V1 H4) (fun (x1:dy) (Sr:List Nat) (H5:AH)=>S x1 Sr H5) fun (H6:AH)=>cap v3 H6) ∧
(∀(x2:Int×Int×Int×Bool),[agg [int i64 x2.1,int i64 x2.2.1,int i32 x2.2.2.1,bool x2.2.2.2]].length=1) ∧
(∀(H7:AH),zB H2 H7→I 0 [(X none).n H2+1,(X none).n H2] H7) ∧
(∀(k2:Nat) (Bu:List Nat) (H8:AH) (x3:Int×Int×Int×Bool),
xs[k2]? = some x3 →
I k2 Bu H8 →
JT Bu H8 →
Wi ((X none).n H2+1) Bu →
[int i64 x3.1,int i64 x3.2.1,int i32 x3.2.2.1,bool x3.2.2.2].length=4 ∧
∃(H9:AH),
(X (some ((X none).n H2+1))).wr
((X (some ((X none).n H2+1))).al H8
(cells [int i64 0,int i64 0,int i32 (0:Int),bool false] 61 { whole:=true }))
((X (some ((X none).n H2+1))).n H8) 0 [int i64 x3.1,int i64 x3.2.1,int i32 x3.2.2.1,bool x3.2.2.2] =
some H9 ∧
Still Bu H8 H8 H9 ∧
∀(jd:AH),
ri ((X none).n H2+1) H9 jd →
∃(k3:Nat),
(X (some ((X none).n H2+1))).aM jd ((X none).n H) 0=some (AV.cY k3) ∧
∃(n1 n2 n3:Int),
∃(b1:Bool),
(X (some ((X none).n H2+1))).bC jd ((X (some ((X none).n H2+1))).n H8) 0 4 =
some [int i64 n1,int i64 n2,int i32 n3,bool b1] ∧
∃(q1:Option (Nat×Nat)),
∃(k4 k5:Nat),
(X (some ((X none).n H2+1))).aM jd r 0=some (slice q1 k4 k5) ∧
∃(n4:Int),
(X (some ((X none).n H2+1))).aM jd ((X none).n ((X none).al H (cells [AV.cY b] 108 { whole:=true }))) 0 =
some (int i64 n4) ∧
∃(k6 k7:Nat),
(q1=some (k6,k7)∧(0:Int)≤n4∧n4<(↑k4:Int)) ∧
∃(b2 b3 b4 b5:Bool),
∃(n5:Int),
(X (some ((X none).n H2+1))).bC jd k6 (k7+n4.toNat*5) 5 =
some [bool b2,bool b3,bool b4,bool b5,int i64 n5] ∧
(X (some ((X none).n H2+1))).cY k3
[agg [int i64 n1,int i64 n2,int i32 n3,bool b1],
agg [bool b2,bool b3,bool b4,bool b5,int i64 n5]]
jd fun (v4:AV) (nT:AH) =>
∃(b6:Bool),
v4=bool b6 ∧
bif !b6 then Still Bu H8 jd nT∧∀(oK:AH),ri ((X none).n H2+1) nT oK→S dy.ret Bu oK
else
∃(n6:Int),
(X (some ((X none).n H2+1))).aM nT ((X none).n ((X none).al H (cells [AV.cY b] 108 { whole:=true })))
0 =
some (int i64 n6) ∧
[int i64 ((X (some ((X none).n H2+1))).wrap i64 (n6+(1:Int)))].length=1 ∧
∃(nw:AH),
(X (some ((X none).n H2+1))).wr nT
((X none).n ((X none).al H (cells [AV.cY b] 108 { whole:=true }))) 0
[int i64 ((X (some ((X none).n H2+1))).wrap i64 (n6+(1:Int)))] =
some nw ∧
Still Bu H8 jd nw∧∀(xH:AH),ri ((X none).n H2+1) nw xH→I (k2+1) Bu xH) ∧
(∀(V0:List Nat) (nv xG:AH),
I xs.length V0 nv→ri ((X none).n H2+1) nv xG→G4 ((X none).n H2) xG→∃(G3:AH),(X none).tm [Mk.mark ((X none).n H2)] xG=some G3∧Q (tuple []) G3) ∧
∀(cs5:List Nat) (vn NG:AH),
S dy.ret cs5 vn→ri ((X none).n H2+1) vn NG→G4 ((X none).n H2) NG→∃(SQ:AH),(X none).tm [Mk.mark ((X none).n H2)] NG=some SQ∧Q (tuple []) SQ):=by kernel_rfl
theorem KB (X:aO) (d r:Int) (H:AH) (Q:AV→AH→Prop):(fG X Tryz.prog [] 25 [.int .i64 d,.int .i32 r] H Q) =
(bif decide (r<(32:Int)) && r != (10:Int) then Q (tuple [str [(32:UInt8)],bool false]) H
else
bif d == (1:Int) then
bif !(r == (60:Int) || r == (62:Int)) then Q (tuple [str [],bool true]) H else Q (tuple [str (cE (X.wrap i32 (X.wrap i32 (r - (32:Int))+(65280:Int)))),bool false]) H
else
bif d == (3:Int) then
bif !(r == (123:Int) || r == (124:Int) || r == (125:Int)) then Q (tuple [str [],bool true]) H
else Q (tuple [str (cE (X.wrap i32 (X.wrap i32 (r - (32:Int))+(65280:Int)))),bool false]) H
else
bif d == (4:Int) then
bif !(r == (123:Int) || r == (92:Int) || r == (125:Int)) then Q (tuple [str [],bool true]) H
else Q (tuple [str (cE (X.wrap i32 (X.wrap i32 (r - (32:Int))+(65280:Int)))),bool false]) H
else Q (tuple [str [],bool true]) H):=by kernel_rfl
theorem Ix (X:Option Nat→aO) (It:FuncId→List AV→List AV→(AH→Prop)→List (List AV)→Prop) (q:Option (Nat×Nat)) (k c:Nat) (H:AH) (Q:AV→AH→Prop):(nx X It Tryz.prog [⟨4,(Option (Nat×Nat)×Nat)×Int×Int,[0,3,4,7,8,9],fun x=>[.slice q k c,.slice x.1.1 x.1.2 x.1.2,.int .i64 x.2.1,.slice q k c,.int .i64 k,.int .i64 x.2.2],fun _ _ _=>True⟩,⟨200009,(Option (Nat×Nat)×Nat)×Int×Int,[0,3,4,7,8,9],fun x=>[.slice q k c,.slice x.1.1 x.1.2 x.1.2,.int .i64 x.2.1,.slice q k c,.int .i64 k,.int .i64 x.2.2],fun _ _ _=>True⟩] [] 26 [.slice q k c] H Q) =
(∃(x1:(Option (Nat×Nat)×Nat)×Int×Int→AH→Nat→Prop),
(∃(x2:(Option (Nat×Nat)×Nat)×Int×Int),
∃(k1:Nat),
[slice q k c,slice none (0:Nat) (0:Nat),int i64 0,slice q k c,int i64 (↑k:Int),int i64 0] =
[slice q k c,slice x2.1.1 x2.1.2 x2.1.2,int i64 x2.2.1,slice q k c,int i64 (↑k:Int),int i64 x2.2.2] ∧
x1 x2 H k1) ∧
∀(x3:(Option (Nat×Nat)×Nat)×Int×Int) (H1:AH) (k2:Nat),
x1 x3 H1 k2 →
bif decide (x3.2.2<(↑k:Int)) then
∃(x4:(Option (Nat×Nat)×Nat)×Int×Int→AH→Prop),
(∃(k3 k4:Nat),
(q=some (k3,k4)∧(0:Int)≤x3.2.2∧x3.2.2<(↑k:Int)) ∧
∃(s1:List UInt8),
∃(b1 b2 b3 b4:Bool),
∃(n1:Int),
(X none).bC H1 k3 (k4+x3.2.2.toNat*6) 6=some [str s1,bool b1,bool b2,bool b3,bool b4,int i64 n1] ∧
[str s1,bool b1,bool b2,bool b3,bool b4,int i64 n1].length=6 ∧
∃(H2:AH),
(X none).wr ((X none).al H1 (cells [str [],bool false,bool false,bool false,bool false,int i64 0] 65 { whole:=true })) ((X none).n H1) 0
[str s1,bool b1,bool b2,bool b3,bool b4,int i64 n1] =
some H2 ∧
∃(s2:List UInt8),
(X none).aM H2 ((X none).n H1) 0=some (str s2) ∧
bif s2 == [(10:UInt8)] then
∃(q1:Option (Nat×Nat)),
∃(k5 k6:Nat),
(X none).Hp 56 (slice q k c) (some (int i64 x3.2.1)) (some (int i64 ((X none).wrap i64 (x3.2.2+(1:Int)))))
(some (int i64 ((X none).wrap i64 (x3.2.2+(1:Int))))) H2 =
some (slice q1 k5 k6) ∧
(1≤16777216∧1=1∧0<1∧true=true∧true=true) ∧
∃(q2:Option (Nat×Nat)),
∃(k7 k8:Nat),
∃(H3:AH),
(X none).app 68 68 (slice x3.1.1 x3.1.2 x3.1.2) (slice (some ((X none).n H2,0)) 1 1)
((X none).al H2 (cells [slice q1 k5 k6] 56 { whole:=true })) =
some (slice q2 k7 k8,H3) ∧
∃(x5:(Option (Nat×Nat)×Nat)×Int×Int),
∃(_k9:Nat),
True ∧
[slice q k c,slice q2 k7 k8,int i64 ((X none).wrap i64 (x3.2.2+(1:Int))),slice q k c,int i64 (↑k:Int),
int i64 x3.2.2] =
[slice q k c,slice x5.1.1 x5.1.2 x5.1.2,int i64 x5.2.1,slice q k c,int i64 (↑k:Int),
int i64 x5.2.2] ∧
x4 x5 H3
else
∃(x6:(Option (Nat×Nat)×Nat)×Int×Int),
∃(_k10:Nat),
True ∧
[slice q k c,slice x3.1.1 x3.1.2 x3.1.2,int i64 x3.2.1,slice q k c,int i64 (↑k:Int),int i64 x3.2.2] =
[slice q k c,slice x6.1.1 x6.1.2 x6.1.2,int i64 x6.2.1,slice q k c,int i64 (↑k:Int),int i64 x6.2.2] ∧
x4 x6 H2) ∧
∀(x7:(Option (Nat×Nat)×Nat)×Int×Int) (H4:AH),
x4 x7 H4 →
∃(x8:(Option (Nat×Nat)×Nat)×Int×Int),
∃(fN:Nat),
fN<k2 ∧
[slice q k c,slice x7.1.1 x7.1.2 x7.1.2,int i64 x7.2.1,slice q k c,int i64 (↑k:Int),int i64 ((X none).wrap i64 (x7.2.2+(1:Int)))] =
[slice q k c,slice x8.1.1 x8.1.2 x8.1.2,int i64 x8.2.1,slice q k c,int i64 (↑k:Int),int i64 x8.2.2] ∧
x1 x8 H4 fN
else
∃(q3:Option (Nat×Nat)),
∃(iq jM:Nat),
(X none).Hp 56 (slice q k c) (some (int i64 x3.2.1)) none none H1=some (slice q3 iq jM) ∧
(1≤16777216∧1=1∧0<1∧true=true∧true=true) ∧
∃(q4:Option (Nat×Nat)),
∃(iD jr:Nat),
∃(H5:AH),
(X none).app 68 68 (slice x3.1.1 x3.1.2 x3.1.2) (slice (some ((X none).n H1,0)) 1 1)
((X none).al H1 (cells [slice q3 iq jM] 56 { whole:=true })) =
some (slice q4 iD jr,H5) ∧
Q (slice q4 iD jr) H5):=by kernel_rfl
theorem Pj (X:Option Nat→aO) (It:FuncId→List AV→List AV→(AH→Prop)→List (List AV)→Prop) (q:Option (Nat×Nat)) (k c:Nat) (H:AH) (Q:AV→AH→Prop):(nx X It Tryz.prog [⟨5,Nat×Nat×(Option (Nat×Nat)×Nat×Nat)×Int×Int,[2,3,15,16,17],fun x=>[.ptr (some (x.1,0)),.ptr (some (x.2.1,0)),.slice x.2.2.1.1 x.2.2.1.2.1 x.2.2.1.2.2,.int .i64 x.2.2.2.1,.int .i64 x.2.2.2.2],fun _ _ _=>True⟩,⟨200013,Nat×Nat×(Option (Nat×Nat)×Nat×Nat)×Int×Int,[2,3,15,16,17],fun x=>[.ptr (some (x.1,0)),.ptr (some (x.2.1,0)),.slice x.2.2.1.1 x.2.2.1.2.1 x.2.2.1.2.2,.int .i64 x.2.2.2.1,.int .i64 x.2.2.2.2],fun _ _ _=>True⟩] [] 27 [.slice q k c] H Q) =
(bif (↑k:Int) == (0:Int) then
[bool false,bool false,bool false,bool false,int i64 0].length=5 ∧
∃(H1:AH),
(X none).wr ((X none).al H (cells [bool false,bool false,bool false,bool false,int i64 0] 63 { whole:=true })) ((X none).n H) 0
[bool false,bool false,bool false,bool false,int i64 0] =
some H1 ∧
∃(b1 b2 b3 b4:Bool),
∃(n1:Int),
(X none).bC H1 ((X none).n H) 0 5=some [bool b1,bool b2,bool b3,bool b4,int i64 n1]∧Q (agg [bool b1,bool b2,bool b3,bool b4,int i64 n1]) H1
else
∃(k1 k2:Nat),
(q=some (k1,k2)∧(0:Int)≤(0:Int)∧(0:Int)<(↑k:Int)) ∧
∃(b5 b6 b7 b8:Bool),
∃(n2:Int),
(X none).bC ((X none).al H (cells [bool false,bool false,bool false,bool false,int i64 0] 63 { whole:=true })) k1 (k2+0+1) 5 =
some [bool b5,bool b6,bool b7,bool b8,int i64 n2] ∧
[bool b5,bool b6,bool b7,bool b8,int i64 n2].length=5 ∧
∃(H2:AH),
(X none).wr
((X none).al ((X none).al H (cells [bool false,bool false,bool false,bool false,int i64 0] 63 { whole:=true }))
(cells [bool false,bool false,bool false,bool false,int i64 0] 63 { whole:=true }))
((X none).n ((X none).al H (cells [bool false,bool false,bool false,bool false,int i64 0] 63 { whole:=true }))) 0
[bool b5,bool b6,bool b7,bool b8,int i64 n2] =
some H2 ∧
∃(q1:Option (Nat×Nat)),
∃(k3 k4:Nat),
(X none).Hp 56 (slice q k c) (some (int i64 1)) none none H2=some (slice q1 k3 k4) ∧
∃(x1:Nat×Nat×(Option (Nat×Nat)×Nat×Nat)×Int×Int→AH→Nat→Prop),
(∃(x2:Nat×Nat×(Option (Nat×Nat)×Nat×Nat)×Int×Int),
∃(k5:Nat),
[ptr (some ((X none).n H,0)),
ptr (some ((X none).n ((X none).al H (cells [bool false,bool false,bool false,bool false,int i64 0] 63 { whole:=true })),0)),
slice q1 k3 k4,int i64 (↑k3:Int),int i64 0] =
[ptr (some (x2.1,0)),ptr (some (x2.2.1,0)),slice x2.2.2.1.1 x2.2.2.1.2.1 x2.2.2.1.2.2,int i64 x2.2.2.2.1,
int i64 x2.2.2.2.2] ∧
x1 x2 H2 k5) ∧
∀(x3:Nat×Nat×(Option (Nat×Nat)×Nat×Nat)×Int×Int) (H3:AH) (k6:Nat),
x1 x3 H3 k6 →
bif decide (x3.2.2.2.2<x3.2.2.2.1) then
∃(x4:Nat×Nat×(Option (Nat×Nat)×Nat×Nat)×Int×Int→AH→Prop),
(∃(k7 k8:Nat),
(x3.2.2.1.1=some (k7,k8)∧(0:Int)≤x3.2.2.2.2∧x3.2.2.2.2<(↑x3.2.2.1.2.1:Int)) ∧
∃(s1:List UInt8),
∃(b9 BF G0 GZ:Bool),
∃(n3:Int),
(X none).bC H3 k7 (k8+x3.2.2.2.2.toNat*6) 6=some [str s1,bool b9,bool BF,bool G0,bool GZ,int i64 n3] ∧
[str s1,bool b9,bool BF,bool G0,bool GZ,int i64 n3].length=6 ∧
∃(H4:AH),
(X none).wr
((X none).al H3 (cells [str [],bool false,bool false,bool false,bool false,int i64 0] 65 { whole:=true }))
((X none).n H3) 0 [str s1,bool b9,bool BF,bool G0,bool GZ,int i64 n3] =
some H4 ∧
∃(GY:Bool),
(X none).aM H4 x3.2.1 0=some (bool GY) ∧
∃(Mp:Bool),
(X none).aM H4 ((X none).n H3) 1=some (bool Mp) ∧
[bool (GY && Mp)].length=1 ∧
∃(H5:AH),
(X none).wr H4 x3.2.1 0 [bool (GY && Mp)]=some H5 ∧
∃(Ko:Bool),
(X none).aM H5 x3.2.1 1=some (bool Ko) ∧
∃(Km:Bool),
(X none).aM H5 ((X none).n H3) 2=some (bool Km) ∧
[bool (Ko && Km)].length=1 ∧
∃(H6:AH),
(X none).wr H5 x3.2.1 1 [bool (Ko && Km)]=some H6 ∧
∃(Kl:Bool),
(X none).aM H6 x3.2.1 2=some (bool Kl) ∧
∃(Kk:Bool),
(X none).aM H6 ((X none).n H3) 3=some (bool Kk) ∧
[bool (Kl && Kk)].length=1 ∧
∃(H7:AH),
(X none).wr H6 x3.2.1 2 [bool (Kl && Kk)]=some H7 ∧
∃(Kj:Bool),
(X none).aM H7 x3.2.1 3=some (bool Kj) ∧
∃(Ki:Bool),
(X none).aM H7 ((X none).n H3) 4=some (bool Ki) ∧
[bool (Kj && Ki)].length=1 ∧
∃(H8:AH),
(X none).wr H7 x3.2.1 3 [bool (Kj && Ki)]=some H8 ∧
∃(n4:Int),
(X none).aM H8 x3.2.1 4=some (int i64 n4) ∧
∃(n5:Int),
(X none).aM H8 ((X none).n H3) 5=some (int i64 n5) ∧
bif n4 != n5 then
1=1 ∧
∃(H9:AH),
(X none).wr H8 x3.2.1 4 [int i64 0]=some H9 ∧
∃(x5:Nat×Nat×(Option (Nat×Nat)×Nat×Nat)×Int×Int),
∃(_k9:Nat),
True ∧
[ptr (some (x3.1,0)),ptr (some (x3.2.1,0)),
slice x3.2.2.1.1 x3.2.2.1.2.1 x3.2.2.1.2.2,
int i64 x3.2.2.2.1,int i64 x3.2.2.2.2] =
[ptr (some (x5.1,0)),ptr (some (x5.2.1,0)),
slice x5.2.2.1.1 x5.2.2.1.2.1 x5.2.2.1.2.2,
int i64 x5.2.2.2.1,int i64 x5.2.2.2.2] ∧
x4 x5 H9
else
∃(x6:Nat×Nat×(Option (Nat×Nat)×Nat×Nat)×Int×Int),
∃(_k10:Nat),
True ∧
[ptr (some (x3.1,0)),ptr (some (x3.2.1,0)),
slice x3.2.2.1.1 x3.2.2.1.2.1 x3.2.2.1.2.2,
int i64 x3.2.2.2.1,int i64 x3.2.2.2.2] =
[ptr (some (x6.1,0)),ptr (some (x6.2.1,0)),
slice x6.2.2.1.1 x6.2.2.1.2.1 x6.2.2.1.2.2,
int i64 x6.2.2.2.1,int i64 x6.2.2.2.2] ∧
x4 x6 H8) ∧
∀(x7:Nat×Nat×(Option (Nat×Nat)×Nat×Nat)×Int×Int) (jd:AH),
x4 x7 jd →
∃(x8:Nat×Nat×(Option (Nat×Nat)×Nat×Nat)×Int×Int),
∃(fN:Nat),
fN<k6 ∧
[ptr (some (x7.1,0)),ptr (some (x7.2.1,0)),slice x7.2.2.1.1 x7.2.2.1.2.1 x7.2.2.1.2.2,
int i64 x7.2.2.2.1,int i64 ((X none).wrap i64 (x7.2.2.2.2+(1:Int)))] =
[ptr (some (x8.1,0)),ptr (some (x8.2.1,0)),slice x8.2.2.1.1 x8.2.2.1.2.1 x8.2.2.1.2.2,
int i64 x8.2.2.2.1,int i64 x8.2.2.2.2] ∧
x1 x8 jd fN
else
∃(Kh Kg Kf Ke:Bool),
∃(n6:Int),
(X none).bC H3 x3.2.1 0 5=some [bool Kh,bool Kg,bool Kf,bool Ke,int i64 n6] ∧
[bool Kh,bool Kg,bool Kf,bool Ke,int i64 n6].length=5 ∧
∃(nT:AH),
(X none).wr H3 x3.1 0 [bool Kh,bool Kg,bool Kf,bool Ke,int i64 n6]=some nT ∧
∃(P1 P0 PZ SB:Bool),
∃(n7:Int),
(X none).bC nT x3.1 0 5=some [bool P1,bool P0,bool PZ,bool SB,int i64 n7] ∧
Q (agg [bool P1,bool P0,bool PZ,bool SB,int i64 n7]) nT):=by kernel_rfl
theorem Lp (X:Option Nat→aO) (It:FuncId→List AV→List AV→(AH→Prop)→List (List AV)→Prop) (d:Int) (s:List UInt8) (q:Option (Nat×Nat)) (k c:Nat) (bl:Bool) (H:AH) (Q:AV→AH→Prop) (xs:List ((Int×Int×Int×Bool)×(Bool×Bool×Bool×Bool×Int))) (cap:AV×AV×Nat×AH→AH→Prop) (I:AV×AV×Nat×AH→Nat→List Nat→AH→Prop) (S:AV×AV×Nat×AH→dy→List Nat→AH→Prop):(nx X It Tryz.prog [⟨200016,Nat×Nat×Nat×Nat×Nat,[5,8,11,12,15],fun x=>[.ptr (some (x.1,0)),.ptr (some (x.2.1,0)),.ptr (some (x.2.2.1,0)),.ptr (some (x.2.2.2.1,0)),.ptr (some (x.2.2.2.2,0))],fun _ _ _=>True⟩,⟨200023,Nat×Nat×Nat×Nat×Int×Nat,[3,6,7,8,9,11],fun x=>[.ptr (some (x.1,0)),.ptr (some (x.2.1,0)),.ptr (some (x.2.2.1,0)),.ptr (some (x.2.2.2.1,0)),.int .i64 x.2.2.2.2.1,.ptr (some (x.2.2.2.2.2,0))],fun _ _ _=>True⟩,⟨24,(Nat×Nat×Nat×Nat×Int×Nat)×(Option (Nat×Nat)×Nat)×Int×Int,[3,6,7,8,9,11,117,118,119],fun x=>[.ptr (some (x.1.1,0)),.ptr (some (x.1.2.1,0)),.ptr (some (x.1.2.2.1,0)),.ptr (some (x.1.2.2.2.1,0)),.int .i64 x.1.2.2.2.2.1,.ptr (some (x.1.2.2.2.2.2,0)),.slice x.2.1.1 x.2.1.2 x.2.1.2,.int .i64 x.2.2.1,.int .i64 x.2.2.2],fun _ _ _=>True⟩,⟨28,((Nat×Nat×Nat×Nat×Int×Nat)×(Option (Nat×Nat)×Nat)×Int×Int)×(Option (Nat×Nat)×Nat×Nat)×Nat×Int×Int,[3,6,7,8,9,11,117,118,119,19,20,126,127],fun x=>[.ptr (some (x.1.1.1,0)),.ptr (some (x.1.1.2.1,0)),.ptr (some (x.1.1.2.2.1,0)),.ptr (some (x.1.1.2.2.2.1,0)),.int .i64 x.1.1.2.2.2.2.1,.ptr (some (x.1.1.2.2.2.2.2,0)),.slice x.1.2.1.1 x.1.2.1.2 x.1.2.1.2,.int .i64 x.1.2.2.1,.int .i64 x.1.2.2.2,.slice x.2.1.1 x.2.1.2.1 x.2.1.2.2,.ptr (some (x.2.2.1,0)),.int .i64 x.2.2.2.1,.int .i64 x.2.2.2.2],fun _ _ _=>True⟩,⟨200036,(((Nat×Nat×Nat×Nat×Int×Nat)×(Option (Nat×Nat)×Nat)×Int×Int)×(Option (Nat×Nat)×Nat×Nat)×Nat×Int×Int)×Int×Nat,[3,6,7,8,9,11,117,118,119,19,20,126,127,21,22],fun x=>[.ptr (some (x.1.1.1.1,0)),.ptr (some (x.1.1.1.2.1,0)),.ptr (some (x.1.1.1.2.2.1,0)),.ptr (some (x.1.1.1.2.2.2.1,0)),.int .i64 x.1.1.1.2.2.2.2.1,.ptr (some (x.1.1.1.2.2.2.2.2,0)),.slice x.1.1.2.1.1 x.1.1.2.1.2 x.1.1.2.1.2,.int .i64 x.1.1.2.2.1,.int .i64 x.1.1.2.2.2,.slice x.1.2.1.1 x.1.2.1.2.1 x.1.2.1.2.2,.ptr (some (x.1.2.2.1,0)),.int .i64 x.1.2.2.2.1,.int .i64 x.1.2.2.2.2,.int .i64 x.2.1,.ptr (some (x.2.2,0))],fun _ _ _=>True⟩,⟨200039,((Nat×Nat×Nat×Nat×Int×Nat)×(Option (Nat×Nat)×Nat)×Int×Int)×(Option (Nat×Nat)×Nat×Nat)×Nat×Int×Int,[3,6,7,8,9,11,117,118,119,19,20,126,127],fun x=>[.ptr (some (x.1.1.1,0)),.ptr (some (x.1.1.2.1,0)),.ptr (some (x.1.1.2.2.1,0)),.ptr (some (x.1.1.2.2.2.1,0)),.int .i64 x.1.1.2.2.2.2.1,.ptr (some (x.1.1.2.2.2.2.2,0)),.slice x.1.2.1.1 x.1.2.1.2 x.1.2.1.2,.int .i64 x.1.2.2.1,.int .i64 x.1.2.2.2,.slice x.2.1.1 x.2.1.2.1 x.2.1.2.2,.ptr (some (x.2.2.1,0)),.int .i64 x.2.2.2.1,.int .i64 x.2.2.2.2],fun _ _ _=>True⟩] [⟨9,AV×AV×Nat×AH,(Int×Int×Int×Bool)×(Bool×Bool×Bool×Bool×Int),61,fun z=>([],[z.1,z.2.1]),fun x=>[.agg [.int .i64 x.1.1,.int .i64 x.1.2.1,.int .i32 x.1.2.2.1,.bool x.1.2.2.2],.agg [.bool x.2.1,.bool x.2.2.1,.bool x.2.2.2.1,.bool x.2.2.2.2.1,.int .i64 x.2.2.2.2.2]],fun _=>xs,cap,I,[],S⟩] 10 [.int .i64 d,.agg [.str s,.slice q k c],.bool bl] H Q) =
(true=true ∧
true=true ∧
true=true ∧
∃(n1:Int),
(X none).aM
((X none).al
((X none).al
((X none).al
((X none).al ((X none).al ((X none).al H (cells [int i64 d] 3 { whole:=true })) (cells [str s,slice q k c] 24 { whole:=true }))
(cells [bool bl] 4 { whole:=true }))
(cells [str [],slice none 0 0] 24 { whole:=true }))
(cells [int i64 0] 3 { whole:=true }))
(cells [int i64 0] 3 { whole:=true }))
((X none).n H) 0 =
some (int i64 n1) ∧
∃(n2:Int),
(X none).aM
((X none).al
((X none).al
((X none).al
((X none).al ((X none).al ((X none).al H (cells [int i64 d] 3 { whole:=true })) (cells [str s,slice q k c] 24 { whole:=true }))
(cells [bool bl] 4 { whole:=true }))
(cells [str [],slice none 0 0] 24 { whole:=true }))
(cells [int i64 0] 3 { whole:=true }))
(cells [int i64 0] 3 { whole:=true }))
((X none).n H) 0 =
some (int i64 n2) ∧
bif decide (n1<(1:Int)) || decide (n2 > (4:Int)) then
∃(s1:List UInt8),
∃(q1:Option (Nat×Nat)),
∃(k1 k2:Nat),
(X none).bC
((X none).al
((X none).al
((X none).al
((X none).al ((X none).al ((X none).al H (cells [int i64 d] 3 { whole:=true })) (cells [str s,slice q k c] 24 { whole:=true }))
(cells [bool bl] 4 { whole:=true }))
(cells [str [],slice none 0 0] 24 { whole:=true }))
(cells [int i64 0] 3 { whole:=true }))
(cells [int i64 0] 3 { whole:=true }))
((X none).n
((X none).al ((X none).al ((X none).al H (cells [int i64 d] 3 { whole:=true })) (cells [str s,slice q k c] 24 { whole:=true }))
(cells [bool bl] 4 { whole:=true })))
0 2 =
some [str s1,slice q1 k1 k2] ∧
[str s1,slice q1 k1 k2].length=2 ∧
∃(H1:AH),
(X none).wr
((X none).al
((X none).al
((X none).al
((X none).al ((X none).al ((X none).al H (cells [int i64 d] 3 { whole:=true })) (cells [str s,slice q k c] 24 { whole:=true }))
(cells [bool bl] 4 { whole:=true }))
(cells [str [],slice none 0 0] 24 { whole:=true }))
(cells [int i64 0] 3 { whole:=true }))
(cells [int i64 0] 3 { whole:=true }))
((X none).n
((X none).al ((X none).al ((X none).al H (cells [int i64 d] 3 { whole:=true })) (cells [str s,slice q k c] 24 { whole:=true }))
(cells [bool bl] 4 { whole:=true })))
0 [str s1,slice q1 k1 k2] =
some H1 ∧
1=1 ∧
∃(H2:AH),
(X none).wr H1
((X none).n
((X none).al
((X none).al ((X none).al ((X none).al H (cells [int i64 d] 3 { whole:=true })) (cells [str s,slice q k c] 24 { whole:=true }))
(cells [bool bl] 4 { whole:=true }))
(cells [str [],slice none 0 0] 24 { whole:=true })))
0 [int i64 0] =
some H2 ∧
1=1 ∧
∃(H3:AH),
(X none).wr H2
((X none).n
((X none).al
((X none).al
((X none).al ((X none).al ((X none).al H (cells [int i64 d] 3 { whole:=true })) (cells [str s,slice q k c] 24 { whole:=true }))
(cells [bool bl] 4 { whole:=true }))
(cells [str [],slice none 0 0] 24 { whole:=true }))
(cells [int i64 0] 3 { whole:=true })))
0 [int i64 0] =
some H3 ∧
∃(s2:List UInt8),
∃(q2:Option (Nat×Nat)),
∃(k3 k4:Nat),
(X none).bC H3
((X none).n
((X none).al ((X none).al ((X none).al H (cells [int i64 d] 3 { whole:=true })) (cells [str s,slice q k c] 24 { whole:=true }))
(cells [bool bl] 4 { whole:=true })))
0 2 =
some [str s2,slice q2 k3 k4] ∧
∃(n3:Int),
(X none).aM H3
((X none).n
((X none).al
((X none).al
((X none).al ((X none).al H (cells [int i64 d] 3 { whole:=true })) (cells [str s,slice q k c] 24 { whole:=true }))
(cells [bool bl] 4 { whole:=true }))
(cells [str [],slice none 0 0] 24 { whole:=true })))
0 =
some (int i64 n3) ∧
∃(n4:Int),
(X none).aM H3
((X none).n
((X none).al
((X none).al
((X none).al
((X none).al ((X none).al H (cells [int i64 d] 3 { whole:=true })) (cells [str s,slice q k c] 24 { whole:=true }))
(cells [bool bl] 4 { whole:=true }))
(cells [str [],slice none 0 0] 24 { whole:=true }))
(cells [int i64 0] 3 { whole:=true })))
0 =
some (int i64 n4) ∧
Q (tuple [agg [str s2,slice q2 k3 k4],int i64 n3,int i64 n4,int i64 0,int i64 5]) H3
else
∃(s3:List UInt8),
∃(q3:Option (Nat×Nat)),
∃(k5 k6:Nat),
(X none).bC
((X none).al
((X none).al
((X none).al
((X none).al ((X none).al ((X none).al H (cells [int i64 d] 3 { whole:=true })) (cells [str s,slice q k c] 24 { whole:=true }))
(cells [bool bl] 4 { whole:=true }))
(cells [str [],slice none 0 0] 24 { whole:=true }))
(cells [int i64 0] 3 { whole:=true }))
(cells [int i64 0] 3 { whole:=true }))
((X none).n ((X none).al H (cells [int i64 d] 3 { whole:=true }))) 0 2 =
some [str s3,slice q3 k5 k6] ∧
(X none).call 23 [agg [str s3,slice q3 k5 k6]]
((X none).al
((X none).al
((X none).al
((X none).al ((X none).al ((X none).al H (cells [int i64 d] 3 { whole:=true })) (cells [str s,slice q k c] 24 { whole:=true }))
(cells [bool bl] 4 { whole:=true }))
(cells [str [],slice none 0 0] 24 { whole:=true }))
(cells [int i64 0] 3 { whole:=true }))
(cells [int i64 0] 3 { whole:=true }))
fun (v1:AV) (H4:AH) =>
∃(n5:Int),
v1=int i64 n5 ∧
bif n5 != (0:Int) then
∃(s4:List UInt8),
∃(q4:Option (Nat×Nat)),
∃(k7 k8:Nat),
(X none).bC H4
((X none).n
((X none).al ((X none).al ((X none).al H (cells [int i64 d] 3 { whole:=true })) (cells [str s,slice q k c] 24 { whole:=true }))
(cells [bool bl] 4 { whole:=true })))
0 2 =
some [str s4,slice q4 k7 k8] ∧
[str s4,slice q4 k7 k8].length=2 ∧
∃(H5:AH),
(X none).wr H4
((X none).n
((X none).al ((X none).al ((X none).al H (cells [int i64 d] 3 { whole:=true })) (cells [str s,slice q k c] 24 { whole:=true }))
(cells [bool bl] 4 { whole:=true })))
0 [str s4,slice q4 k7 k8] =
some H5 ∧
1=1 ∧
∃(H6:AH),
(X none).wr H5
((X none).n
((X none).al
((X none).al ((X none).al ((X none).al H (cells [int i64 d] 3 { whole:=true })) (cells [str s,slice q k c] 24 { whole:=true }))
(cells [bool bl] 4 { whole:=true }))
(cells [str [],slice none 0 0] 24 { whole:=true })))
0 [int i64 0] =
some H6 ∧
1=1 ∧
∃(H7:AH),
(X none).wr H6
((X none).n
((X none).al
((X none).al
((X none).al
((X none).al ((X none).al H (cells [int i64 d] 3 { whole:=true })) (cells [str s,slice q k c] 24 { whole:=true }))
(cells [bool bl] 4 { whole:=true }))
(cells [str [],slice none 0 0] 24 { whole:=true }))
(cells [int i64 0] 3 { whole:=true })))
0 [int i64 0] =
some H7 ∧
∃(s5:List UInt8),
∃(q5:Option (Nat×Nat)),
∃(k9 jb:Nat),
(X none).bC H7
((X none).n
((X none).al
((X none).al ((X none).al H (cells [int i64 d] 3 { whole:=true }))
(cells [str s,slice q k c] 24 { whole:=true }))
(cells [bool bl] 4 { whole:=true })))
0 2 =
some [str s5,slice q5 k9 jb] ∧
∃(n6:Int),
(X none).aM H7
((X none).n
((X none).al
((X none).al
((X none).al ((X none).al H (cells [int i64 d] 3 { whole:=true }))
(cells [str s,slice q k c] 24 { whole:=true }))
(cells [bool bl] 4 { whole:=true }))
(cells [str [],slice none 0 0] 24 { whole:=true })))
0 =
some (int i64 n6) ∧
∃(n7:Int),
(X none).aM H7
((X none).n
((X none).al
((X none).al
((X none).al
((X none).al ((X none).al H (cells [int i64 d] 3 { whole:=true }))
(cells [str s,slice q k c] 24 { whole:=true }))
(cells [bool bl] 4 { whole:=true }))
(cells [str [],slice none 0 0] 24 { whole:=true }))
(cells [int i64 0] 3 { whole:=true })))
0 =
some (int i64 n7) ∧
Q (tuple [agg [str s5,slice q5 k9 jb],int i64 n6,int i64 n7,int i64 0,int i64 n5]) H7
else
1=1 ∧
∃(H8:AH),
(X none).wr ((X none).al ((X none).al H4 (cells [slice none 0 0] 56 { whole:=true })) (cells [int i64 0] 3 { whole:=true }))
((X none).n ((X none).al H4 (cells [slice none 0 0] 56 { whole:=true }))) 0 [int i64 0] =
some H8 ∧
∃(s6:List UInt8),
∃(q6:Option (Nat×Nat)),
∃(fN iq:Nat),
(X none).bC H8 ((X none).n ((X none).al H (cells [int i64 d] 3 { whole:=true }))) 0 2=some [str s6,slice q6 fN iq] ∧
(X none).call 24 [agg [str s6,slice q6 fN iq]] H8 fun (v2:AV) (H9:AH) =>
∃(v3:AV),
v2=v3 ∧
∃(x1:AV×AV×Nat×AH),
v3=AV.func (Fn.func (nat_lit 61)) [] [x1.1,x1.2.1] ∧
It (nat_lit 61) [] [x1.1,x1.2.1] (fun (jd:AH)=>cap x1 jd)
(List.map
(fun (x:(Int×Int×Int×Bool)×Bool×Bool×Bool×Bool×Int) =>
[agg [int i64 x.1.1,int i64 x.1.2.1,int i32 x.1.2.2.1,bool x.1.2.2.2],
agg [bool x.2.1,bool x.2.2.1,bool x.2.2.2.1,bool x.2.2.2.2.1,int i64 x.2.2.2.2.2]])
xs) ∧
(tq (fun (jM:Nat) (V1:List Nat) (nT:AH)=>I x1 jM V1 nT) (fun (x2:dy) (Sr:List Nat) (oK:AH)=>S x1 x2 Sr oK) fun (nw:AH)=>cap x1 nw) ∧
(∀(x3:(Int×Int×Int×Bool)×Bool×Bool×Bool×Bool×Int),
[agg [int i64 x3.1.1,int i64 x3.1.2.1,int i32 x3.1.2.2.1,bool x3.1.2.2.2],
agg [bool x3.2.1,bool x3.2.2.1,bool x3.2.2.2.1,bool x3.2.2.2.2.1,int i64 x3.2.2.2.2.2]].length =
2) ∧
(∀(xH:AH),zB H9 xH→I x1 0 [(X none).n H9+1,(X none).n H9] xH) ∧
(∀(iD:Nat) (Bu:List Nat) (nv:AH) (x4:(Int×Int×Int×Bool)×Bool×Bool×Bool×Bool×Int),
xs[iD]? = some x4 →
I x1 iD Bu nv →
JT Bu nv →
Wi ((X none).n H9+1) Bu →
[int i64 x4.1.1,int i64 x4.1.2.1,int i32 x4.1.2.2.1,bool x4.1.2.2.2].length=4 ∧
∃(xG:AH),
(X (some ((X none).n H9+1))).wr
((X (some ((X none).n H9+1))).al nv
(cells [int i64 0,int i64 0,int i32 (0:Int),bool false] 61 { whole:=true }))
((X (some ((X none).n H9+1))).n nv) 0
[int i64 x4.1.1,int i64 x4.1.2.1,int i32 x4.1.2.2.1,bool x4.1.2.2.2] =
some xG ∧
[bool x4.2.1,bool x4.2.2.1,bool x4.2.2.2.1,bool x4.2.2.2.2.1,
int i64 x4.2.2.2.2.2].length =
5 ∧
∃(G3:AH),
(X (some ((X none).n H9+1))).wr
((X (some ((X none).n H9+1))).al xG
(cells [bool false,bool false,bool false,bool false,int i64 0] 63 { whole:=true }))
((X (some ((X none).n H9+1))).n xG) 0
[bool x4.2.1,bool x4.2.2.1,bool x4.2.2.2.1,bool x4.2.2.2.2.1,
int i64 x4.2.2.2.2.2] =
some G3 ∧
Still Bu nv nv G3 ∧
∀(vn:AH),
ri ((X none).n H9+1) G3 vn →
∃(s7:List UInt8),
(X (some ((X none).n H9+1))).aM vn ((X none).n ((X none).al H (cells [int i64 d] 3 { whole:=true })))
0 =
some (str s7) ∧
∃(n8:Int),
(X (some ((X none).n H9+1))).aM vn ((X (some ((X none).n H9+1))).n nv) 0=some (int i64 n8) ∧
∃(n9:Int),
(X (some ((X none).n H9+1))).aM vn ((X (some ((X none).n H9+1))).n nv) 0 =
some (int i64 n9) ∧
∃(eK:Int),
(X (some ((X none).n H9+1))).aM vn ((X (some ((X none).n H9+1))).n nv) 1 =
some (int i64 eK) ∧
((0:Int)≤n8 ∧
n8≤(X (some ((X none).n H9+1))).wrap i64 (n9+eK) ∧
(X (some ((X none).n H9+(1:Nat)))).wrap i64 (n9+eK)≤(↑s7.length:Int)) ∧
∃(b1 b2 b3 b4:Bool),
∃(iC:Int),
(X (some ((X none).n H9+1))).bC vn ((X (some ((X none).n H9+1))).n xG) 0
5 =
some [bool b1,bool b2,bool b3,bool b4,int i64 iC] ∧
(∃(b5 b6 b7 b8:Bool),
∃(j6:Int),
(X (some ((X none).n H9+1))).bC
((X (some ((X none).n H9+1))).al vn
(cells
[str [],bool false,bool false,bool false,bool false,
int i64 0]
65 { whole:=true }))
((X (some ((X none).n H9+1))).n xG) 0 5 =
some [bool b5,bool b6,bool b7,bool b8,int i64 j6] ∧
agg [bool b5,bool b6,bool b7,bool b8,int i64 j6] =
agg [bool b1,bool b2,bool b3,bool b4,int i64 iC]) ∧
(((0:Int)≤n8 ∧
n8≤(X (some ((X none).n H9+1))).wrap i64 (n9+eK) ∧
(X (some ((X none).n H9+(1:Nat)))).wrap i64 (n9+eK)≤(↑s7.length:Int)) ∧
str
(List.take ((X (some ((X none).n H9+1))).wrap i64 (n9+eK) - n8).toNat
(List.drop n8.toNat s7)) =
str
(List.take ((X (some ((X none).n H9+1))).wrap i64 (n9+eK) - n8).toNat
(List.drop n8.toNat s7))) ∧
(∃(kO:Int),
(X (some ((X none).n H9+1))).aM
((X (some ((X none).n H9+1))).al vn
(cells
[str [],bool false,bool false,bool false,bool false,
int i64 0]
65 { whole:=true }))
((X (some ((X none).n H9+1))).n nv) 1 =
some (int i64 kO) ∧
int i64 kO=int i64 eK) ∧
(∃(lD:Int),
(X (some ((X none).n H9+1))).aM
((X (some ((X none).n H9+1))).al vn
(cells
[str [],bool false,bool false,bool false,bool false,
int i64 0]
65 { whole:=true }))
((X (some ((X none).n H9+1))).n nv) 0 =
some (int i64 lD) ∧
int i64 lD=int i64 n9) ∧
(∃(pI:Int),
(X (some ((X none).n H9+1))).aM
((X (some ((X none).n H9+1))).al vn
(cells
[str [],bool false,bool false,bool false,bool false,
int i64 0]
65 { whole:=true }))
((X (some ((X none).n H9+1))).n nv) 0 =
some (int i64 pI) ∧
int i64 pI=int i64 n8) ∧
(∃(s8:List UInt8),
(X (some ((X none).n H9+1))).aM
((X (some ((X none).n H9+1))).al vn
(cells
[str [],bool false,bool false,bool false,bool false,
int i64 0]
65 { whole:=true }))
((X none).n ((X none).al H (cells [int i64 d] 3 { whole:=true })))
0 =
some (str s8) ∧
str s8=str s7) ∧
[str
(List.take ((X (some ((X none).n H9+1))).wrap i64 (n9+eK) - n8).toNat
(List.drop n8.toNat s7)),
bool b1,bool b2,bool b3,bool b4,int i64 iC].length =
6 ∧
∃(NG:AH),
(X (some ((X none).n H9+1))).wr
((X (some ((X none).n H9+1))).al vn
(cells
[str [],bool false,bool false,bool false,bool false,
int i64 0]
65 { whole:=true }))
((X (some ((X none).n H9+1))).n vn) 0
[str
(List.take
((X (some ((X none).n H9+1))).wrap i64 (n9+eK) - n8).toNat
(List.drop n8.toNat s7)),
bool b1,bool b2,bool b3,bool b4,int i64 iC] =
some NG ∧
∃(x5:Nat×Nat×Nat×Nat×Nat→AH→Prop),
(∃(qt:Int),
(X (some ((X none).n H9+1))).aM NG ((X none).n H) 0 =
some (int i64 qt) ∧
∃(sX:Int),
(X (some ((X none).n H9+1))).aM NG
((X (some ((X none).n H9+1))).n nv) 2 =
some (int i32 sX) ∧
(X (some ((X none).n H9+1))).call 25
[int i64 qt,int i32 sX] NG fun (v4:AV) (SQ:AH) =>
∃(s9:List UInt8),
∃(b9:Bool),
v4=tuple [str s9,bool b9] ∧
bif !b9 then
[str s9].length=1 ∧
∃(Wr:AH),
(X (some ((X none).n H9+1))).wr SQ
((X (some ((X none).n H9+1))).n vn) 0
[str s9] =
some Wr ∧
∃(vt:Int),
(X (some ((X none).n H9+1))).aM Wr
((X none).n
((X none).al
((X none).al
((X none).al
((X none).al H
(cells [int i64 d] 3
{ whole:=true }))
(cells [str s,slice q k c] 24
{ whole:=true }))
(cells [bool bl] 4
{ whole:=true }))
(cells
[str [],slice none 0 0]
24 { whole:=true })))
0 =
some (int i64 vt) ∧
[int i64
((X (some ((X none).n H9+1))).wrap
i64 (vt+(1:Int)))].length =
1 ∧
∃(YP:AH),
(X (some ((X none).n H9+1))).wr Wr
((X none).n
((X none).al
((X none).al
((X none).al
((X none).al H
(cells [int i64 d]
3 { whole:=true }))
(cells [str s,slice q k c]
24 { whole:=true }))
(cells [bool bl] 4
{ whole:=true }))
(cells
[str [],slice none 0 0]
24 { whole:=true })))
0
[int i64
((X (some ((X none).n H9+1))).wrap
i64 (vt+(1:Int)))] =
some YP ∧
∃(x6:Nat×Nat×Nat×Nat×Nat),
∃(_k15:Nat),
True ∧
[ptr
(some
((X none).n
((X none).al
((X none).al H
(cells
[int i64 d]
3 { whole:=true }))
(cells
[str s,slice q k c]
24 { whole:=true })),
0)),
ptr
(some
((X none).n
((X none).al
((X none).al
((X none).al
((X none).al
((X none).al H
(cells
[int i64 d]
3
{ whole:=true }))
(cells
[str s,slice q k c]
24
{ whole:=true }))
(cells [bool bl]
4
{ whole:=true }))
(cells
[str [],
slice none 0
0]
24 { whole:=true }))
(cells
[int i64 0]
3 { whole:=true })),
0)),
ptr (some ((X none).n H4,0)),
ptr
(some
((X none).n
((X none).al H4
(cells
[slice none 0
0]
56 { whole:=true })),
0)),
ptr
(some
((X
(some
((X none).n H9 +
1))).n
vn,
0))] =
[ptr (some (x6.1,0)),
ptr (some (x6.2.1,0)),
ptr (some (x6.2.2.1,0)),
ptr
(some (x6.2.2.2.1,0)),
ptr
(some (x6.2.2.2.2,0))] ∧
x5 x6 YP
else
∃(x7:Nat×Nat×Nat×Nat×Nat),
∃(_k16:Nat),
True ∧
[ptr
(some
((X none).n
((X none).al
((X none).al H
(cells [int i64 d] 3
{ whole:=true }))
(cells [str s,slice q k c] 24
{ whole:=true })),
0)),
ptr
(some
((X none).n
((X none).al
((X none).al
((X none).al
((X none).al
((X none).al H
(cells [int i64 d]
3 { whole:=true }))
(cells [str s,slice q k c]
24 { whole:=true }))
(cells [bool bl] 4
{ whole:=true }))
(cells
[str [],slice none 0 0]
24 { whole:=true }))
(cells [int i64 0]
3 { whole:=true })),
0)),
ptr (some ((X none).n H4,0)),
ptr
(some
((X none).n
((X none).al H4
(cells [slice none 0 0]
56 { whole:=true })),
0)),
ptr
(some
((X (some ((X none).n H9+1))).n vn,
0))] =
[ptr (some (x7.1,0)),
ptr (some (x7.2.1,0)),
ptr (some (x7.2.2.1,0)),
ptr (some (x7.2.2.2.1,0)),
ptr (some (x7.2.2.2.2,0))] ∧
x5 x7 SQ) ∧
∀(x8:Nat×Nat×Nat×Nat×Nat) (GC:AH),
x5 x8 GC →
∃(Pr:List UInt8),
(X (some ((X none).n H9+1))).aM GC x8.2.2.2.2 0 =
some (str Pr) ∧
∃(BF:Bool),
(X (some ((X none).n H9+1))).aM GC x8.1 0 =
some (bool BF) ∧
∃(q7:Option (Nat×Nat)),
∃(jq lK:Nat),
(X (some ((X none).n H9+1))).aM GC x8.2.2.1
0 =
some (slice q7 jq lK) ∧
∃(q8:Option (Nat×Nat)),
∃(sB zL:Nat),
(X (some ((X none).n H9+1))).aM GC x8.2.2.1
0 =
some (slice q8 sB zL) ∧
∃(q9:Option (Nat×Nat)),
∃(qA pN:Nat),
(X (some ((X none).n H9+1))).aM GC
x8.2.2.1 0 =
some (slice q9 qA pN) ∧
∃(rR vL:Nat),
(((Pr == [(10:UInt8)] && !BF) == true &&
((↑jq:Int) == (0:Int)) == false) =
true →
q8=some (rR,vL) ∧
(0:Int) ≤
(X
(some
((X none).n H9 +
1))).wrap
i64
((↑qA:Int) - (1:Int)) ∧
(X
(some
((X none).n H9 +
1))).wrap
i64
((↑qA:Int) - (1:Int)) <
(↑sB:Int)) ∧
∃(xX:List UInt8),
(X (some ((X none).n H9+1))).aM GC
rR
(vL +
((X
(some
((X none).n H9 +
1))).wrap
i64
((↑qA:Int) -
(1:Int))).toNat *
6 +
0) =
some (str xX) ∧
bif
Pr == [(10:UInt8)] && !BF &&
((↑jq:Int) == (0:Int) ||
xX == [(10:UInt8)]) then
∃(yL:Int),
(X
(some
((X none).n H9 +
1))).aM
GC x8.2.1 0 =
some (int i64 yL) ∧
[int i64
((X
(some
((X none).n H9 +
1))).wrap
i64
(yL +
(1:Int)))].length =
1 ∧
∃(Wq:AH),
(X
(some
((X none).n H9 +
1))).wr
GC x8.2.1 0
[int i64
((X
(some
((X none).n H9 +
(1 :
Nat)))).wrap
i64
(yL+(1:Int)))] =
some Wq ∧
Still Bu nv vn Wq ∧
∀(YO:AH),
ri
((X none).n H9 +
1)
Wq YO →
I x1 (iD+1) Bu
YO
else
∃(Qs:Option (Nat×Nat)),
∃(FP wR:Nat),
(X
(some
((X none).n H9 +
1))).aM
GC x8.2.2.1 0 =
some (slice Qs FP wR) ∧
∃(BP:List UInt8),
∃(G0 GZ GY Mp:Bool),
∃(wJ:Int),
(X
(some
((X
none).n
H9 +
(1 :
Nat)))).bC
GC
x8.2.2.2.2
0
6 =
some
[str BP,
bool G0,
bool GZ,
bool GY,
bool Mp,
int
i64
wJ] ∧
(6 ≤
(16777216 :
Nat) ∧
6 =
6 ∧
0 <
(6 :
Nat) ∧
true =
true ∧
true =
true) ∧
∃(Um :
Option
(Nat×Nat)),
∃(ny zK:Nat),
∃(YN :
AH),
(X
(some
((X
none).n
H9 +
(1 :
Nat)))).app
(56 :
Nat)
(56 :
Nat)
(slice
Qs
FP
wR)
(slice
(some
((X
(some
((X
none).n
H9 +
(1 :
Nat)))).n
GC,
(0 :
Nat)))
(1 :
Nat)
(1 :
Nat))
((X
(some
((X
none).n
H9 +
(1 :
Nat)))).al
GC
(cells
[str
BP,
bool
G0,
bool
GZ,
bool
GY,
bool
Mp,
int
i64
wJ]
(65 :
Nat)
{
whole :=
true })) =
some
(slice
Um
ny
zK,
YN) ∧
[slice
Um
ny
zK].length =
(1 :
Nat) ∧
∃(Wp
:
AH),
(X
(some
((X
none).n
H9 +
(1 :
Nat)))).wr
YN
x8.2.2.1
(0 :
Nat)
[slice
Um
ny
zK] =
some
Wp ∧
∃
(BQ
:
Int),
(X
(some
((X
none).n
H9 +
(1 :
Nat)))).aM
Wp
x8.2.2.2.1
(0 :
Nat) =
some
(int
i64
BQ) ∧
[int
i64
((X
(some
((X
none).n
H9 +
(1 :
Nat)))).wrap
i64
(BQ +
(1 :
Int)))].length =
(1 :
Nat) ∧
∃
(Wo
:
AH),
(X
(some
((X
none).n
H9 +
(1 :
Nat)))).wr
Wp
x8.2.2.2.1
(0 :
Nat)
[int
i64
((X
(some
((X
none).n
H9 +
(1 :
Nat)))).wrap
i64
(BQ +
(1 :
Int)))] =
some
Wo ∧
Still
Bu
nv
vn
Wo ∧
∀
(YM :
AH),
ri
((X
none).n
H9 +
(1 :
Nat))
Wo
YM →
I
x1
(iD +
(1 :
Nat))
Bu
YM) ∧
(∀(V0:List Nat) (YL G2:AH),
I x1 xs.length V0 YL →
ri ((X none).n H9+1) YL G2 →
G4 ((X none).n H9) G2 →
∃(x9:Nat×Nat×Nat×Nat×Int×Nat→AH→Prop),
(∃(D5:Int),
(X none).aM G2 ((X none).n ((X none).al H4 (cells [slice none 0 0] 56 { whole:=true }))) 0 =
some (int i64 D5) ∧
∃(Ko:Bool),
(X none).aM G2
((X none).n
((X none).al ((X none).al H (cells [int i64 d] 3 { whole:=true }))
(cells [str s,slice q k c] 24 { whole:=true })))
0 =
some (bool Ko) ∧
∃(WR:Option (Nat×Nat)),
∃(FO FN:Nat),
(X none).aM G2 ((X none).n H4) 0=some (slice WR FO FN) ∧
∃(CN:Int),
(X none).aM G2 ((X none).n ((X none).al H4 (cells [slice none 0 0] 56 { whole:=true }))) 0 =
some (int i64 CN) ∧
∃(IM IL:Nat),
(((decide (D5 > (0:Int)) && !Ko) == true)=true →
WR=some (IM,IL) ∧
(0:Int)≤(X none).wrap i64 (CN - (1:Int))∧(X none).wrap i64 (CN - (1:Int))<(↑FO:Int)) ∧
∃(Qj:List UInt8),
(X none).aM G2 IM (IL+((X none).wrap i64 (CN - (1:Int))).toNat*6+0)=some (str Qj) ∧
bif decide (D5 > (0:Int)) && !Ko && Qj == [(10:UInt8)] then
∃(WQ:Option (Nat×Nat)),
∃(IK IJ:Nat),
(X none).aM G2 ((X none).n H4) 0=some (slice WQ IK IJ) ∧
∃(FE:Int),
(X none).aM G2
((X none).n ((X none).al H4 (cells [slice none 0 0] 56 { whole:=true })))
0 =
some (int i64 FE) ∧
∃(Ul:Option (Nat×Nat)),
∃(GI GH:Nat),
(X none).Hp 56 (slice WQ IK IJ) none
(some (int i64 ((X none).wrap i64 (FE - (1:Int))))) none G2 =
some (slice Ul GI GH) ∧
[slice Ul GI GH].length=1 ∧
∃(Wn:AH),
(X none).wr G2 ((X none).n H4) 0 [slice Ul GI GH]=some Wn ∧
∃(FD:Int),
(X none).aM Wn
((X none).n
((X none).al
((X none).al
((X none).al
((X none).al
((X none).al H (cells [int i64 d] 3 { whole:=true }))
(cells [str s,slice q k c] 24 { whole:=true }))
(cells [bool bl] 4 { whole:=true }))
(cells [str [],slice none 0 0] 24
{ whole:=true }))
(cells [int i64 0] 3 { whole:=true })))
0 =
some (int i64 FD) ∧
[int i64 ((X none).wrap i64 (FD+(1:Int)))].length=1 ∧
∃(YK:AH),
(X none).wr Wn
((X none).n
((X none).al
((X none).al
((X none).al
((X none).al
((X none).al H
(cells [int i64 d] 3 { whole:=true }))
(cells [str s,slice q k c] 24 { whole:=true }))
(cells [bool bl] 4 { whole:=true }))
(cells [str [],slice none 0 0] 24
{ whole:=true }))
(cells [int i64 0] 3 { whole:=true })))
0 [int i64 ((X none).wrap i64 (FD+(1:Int)))] =
some YK ∧
[Mk.mark ((X none).n H9)]=[Mk.mark ((X none).n H9)] ∧
∃(bp:Nat×Nat×Nat×Nat×Int×Nat),
∃(_k37:Nat),
True ∧
[ptr (some ((X none).n H,0)),
ptr
(some
((X none).n
((X none).al
((X none).al
((X none).al H
(cells [int i64 d] 3
{ whole:=true }))
(cells [str s,slice q k c] 24
{ whole:=true }))
(cells [bool bl] 4 { whole:=true })),
0)),
ptr
(some
((X none).n
((X none).al
((X none).al
((X none).al
((X none).al H
(cells [int i64 d] 3
{ whole:=true }))
(cells [str s,slice q k c] 24
{ whole:=true }))
(cells [bool bl] 4 { whole:=true }))
(cells [str [],slice none 0 0]
24 { whole:=true })),
0)),
ptr
(some
((X none).n
((X none).al
((X none).al
((X none).al
((X none).al
((X none).al H
(cells [int i64 d] 3
{ whole:=true }))
(cells [str s,slice q k c] 24
{ whole:=true }))
(cells [bool bl] 4 { whole:=true }))
(cells [str [],slice none 0 0]
24 { whole:=true }))
(cells [int i64 0] 3
{ whole:=true })),
0)),
int i64 0,ptr (some ((X none).n H4,0))] =
[ptr (some (bp.1,0)),ptr (some (bp.2.1,0)),
ptr (some (bp.2.2.1,0)),
ptr (some (bp.2.2.2.1,0)),
int i64 bp.2.2.2.2.1,
ptr (some (bp.2.2.2.2.2,0))] ∧
x9 bp YK
else
[Mk.mark ((X none).n H9)]=[Mk.mark ((X none).n H9)] ∧
∃(eL:Nat×Nat×Nat×Nat×Int×Nat),
∃(_k38:Nat),
True ∧
[ptr (some ((X none).n H,0)),
ptr
(some
((X none).n
((X none).al
((X none).al ((X none).al H (cells [int i64 d] 3 { whole:=true }))
(cells [str s,slice q k c] 24 { whole:=true }))
(cells [bool bl] 4 { whole:=true })),
0)),
ptr
(some
((X none).n
((X none).al
((X none).al
((X none).al ((X none).al H (cells [int i64 d] 3 { whole:=true }))
(cells [str s,slice q k c] 24 { whole:=true }))
(cells [bool bl] 4 { whole:=true }))
(cells [str [],slice none 0 0] 24 { whole:=true })),
0)),
ptr
(some
((X none).n
((X none).al
((X none).al
((X none).al
((X none).al ((X none).al H (cells [int i64 d] 3 { whole:=true }))
(cells [str s,slice q k c] 24 { whole:=true }))
(cells [bool bl] 4 { whole:=true }))
(cells [str [],slice none 0 0] 24 { whole:=true }))
(cells [int i64 0] 3 { whole:=true })),
0)),
int i64 0,ptr (some ((X none).n H4,0))] =
[ptr (some (eL.1,0)),ptr (some (eL.2.1,0)),
ptr (some (eL.2.2.1,0)),ptr (some (eL.2.2.2.1,0)),
int i64 eL.2.2.2.2.1,ptr (some (eL.2.2.2.2.2,0))] ∧
x9 eL G2) ∧
∀(dL:Nat×Nat×Nat×Nat×Int×Nat) (Wm:AH),
x9 dL Wm →
∃(WO:Option (Nat×Nat)),
∃(QN QM:Nat),
(X none).aM Wm dL.2.2.2.2.2 0=some (slice WO QN QM) ∧
(X none).call 26 [slice WO QN QM] Wm fun (v5:AV) (H35:AH) =>
∃(WN:Option (Nat×Nat)),
∃(MP Lr:Nat),
v5=slice WN MP Lr ∧
∃(gX:(Nat×Nat×Nat×Nat×Int×Nat)×(Option (Nat×Nat)×Nat)×Int×Int→AH→Nat→Prop),
(∃(bW:(Nat×Nat×Nat×Nat×Int×Nat)×(Option (Nat×Nat)×Nat)×Int×Int),
∃(S9:Nat),
[ptr (some (dL.1,0)),ptr (some (dL.2.1,0)),ptr (some (dL.2.2.1,0)),
ptr (some (dL.2.2.2.1,0)),int i64 dL.2.2.2.2.1,
ptr (some (dL.2.2.2.2.2,(0:Nat))),slice WN MP Lr,int i64 (↑MP:Int),
int i64 0] =
[ptr (some (bW.1.1,0)),ptr (some (bW.1.2.1,0)),
ptr (some (bW.1.2.2.1,0)),ptr (some (bW.1.2.2.2.1,0)),
int i64 bW.1.2.2.2.2.1,ptr (some (bW.1.2.2.2.2.2,0)),
slice bW.2.1.1 bW.2.1.2 bW.2.1.2,int i64 bW.2.2.1,
int i64 bW.2.2.2] ∧
gX bW H35 S9) ∧
∀(fF:(Nat×Nat×Nat×Nat×Int×Nat)×(Option (Nat×Nat)×Nat)×Int×Int) (SP:AH) (QL:Nat),
gX fF SP QL →
bif decide (fF.2.2.2<fF.2.2.1) then
∃(QK QJ:Nat),
(fF.2.1.1=some (QK,QJ)∧(0:Int)≤fF.2.2.2∧fF.2.2.2<(↑fF.2.1.2:Int)) ∧
∃(Uk:Option (Nat×Nat)),
∃(Oh Py:Nat),
(X none).aM SP QK (QJ+fF.2.2.2.toNat*1)=some (slice Uk Oh Py) ∧
(X none).call 27 [slice Uk Oh Py] SP fun (v6:AV) (Wl:AH) =>
∃(Km Kl Kk Kj:Bool),
∃(FC:Int),
v6=agg [bool Km,bool Kl,bool Kk,bool Kj,int i64 FC] ∧
[bool Km,bool Kl,bool Kk,bool Kj,int i64 FC].length =
5 ∧
∃(YJ:AH),
(X none).wr
((X none).al Wl
(cells
[bool false,bool false,bool false,bool false,
int i64 0]
63 { whole:=true }))
((X none).n Wl) 0
[bool Km,bool Kl,bool Kk,bool Kj,int i64 FC] =
some YJ ∧
∃(vr :
((Nat×Nat×Nat×Nat×Int×Nat)×(Option (Nat×Nat)×Nat)×Int×Int) ×
(Option (Nat×Nat)×Nat×Nat)×Nat×Int×Int →
AH→Nat→Prop),
(∃(dN :
((Nat×Nat×Nat×Nat×Int×Nat)×(Option (Nat×Nat)×Nat)×Int×Int) ×
(Option (Nat×Nat)×Nat×Nat)×Nat×Int×Int),
∃(Ze:Nat),
[ptr (some (fF.1.1,0)),
ptr (some (fF.1.2.1,0)),
ptr (some (fF.1.2.2.1,0)),
ptr (some (fF.1.2.2.2.1,0)),
int i64 fF.1.2.2.2.2.1,
ptr (some (fF.1.2.2.2.2.2,0)),
slice fF.2.1.1 fF.2.1.2 fF.2.1.2,
int i64 fF.2.2.1,int i64 fF.2.2.2,
slice Uk Oh Py,ptr (some ((X none).n Wl,0)),
int i64 (↑Oh:Int),int i64 0] =
[ptr (some (dN.1.1.1,0)),
ptr (some (dN.1.1.2.1,0)),
ptr (some (dN.1.1.2.2.1,0)),
ptr (some (dN.1.1.2.2.2.1,0)),
int i64 dN.1.1.2.2.2.2.1,
ptr (some (dN.1.1.2.2.2.2.2,0)),
slice dN.1.2.1.1 dN.1.2.1.2 dN.1.2.1.2,
int i64 dN.1.2.2.1,
int i64 dN.1.2.2.2,
slice dN.2.1.1 dN.2.1.2.1 dN.2.1.2.2,
ptr (some (dN.2.2.1,0)),
int i64 dN.2.2.2.1,
int i64 dN.2.2.2.2] ∧
vr dN YJ Ze) ∧
∀
(cr :
((Nat×Nat×Nat×Nat×Int×Nat)×(Option (Nat×Nat)×Nat)×Int×Int) ×
(Option (Nat×Nat)×Nat×Nat)×Nat×Int×Int)
(Kq:AH) (Xf:Nat),
vr cr Kq Xf →
bif decide (cr.2.2.2.2<cr.2.2.2.1) then
∃(lN :
((Nat×Nat×Nat×Nat×Int×Nat) ×
(Option (Nat×Nat)×Nat)×Int×Int) ×
(Option (Nat×Nat)×Nat×Nat)×Nat×Int×Int →
AH→Prop),
(∃(Xe Xd:Nat),
(cr.2.1.1=some (Xe,Xd) ∧
(0:Int)≤cr.2.2.2.2 ∧
cr.2.2.2.2<(↑cr.2.1.2.1:Int)) ∧
∃(Ki Kh Kg Kf:Bool),
∃(DZ:Int),
(X none).bC Kq Xe
(Xd+cr.2.2.2.2.toNat*6 +
1)
5 =
some
[bool Ki,bool Kh,bool Kg,bool Kf,
int i64 DZ] ∧
[bool Ki,bool Kh,bool Kg,bool Kf,
int i64 DZ].length =
5 ∧
∃(P4:AH),
(X none).wr
((X none).al Kq
(cells
[bool false,bool false,
bool false,bool false,
int i64 0]
63 { whole:=true }))
((X none).n Kq) 0
[bool Ki,bool Kh,bool Kg,
bool Kf,int i64 DZ] =
some P4 ∧
∃(lJ :
(((Nat×Nat×Nat×Nat×Int×Nat) ×
(Option (Nat×Nat)×Nat)×Int×Int) ×
(Option (Nat×Nat)×Nat×Nat) ×
Nat×Int×Int) ×
Int×Nat →
AH→Prop),
(∃(DY:Int),
(X none).aM P4 cr.1.1.1 0 =
some (int i64 DY) ∧
bif DY == (2:Int) then
1=1 ∧
∃(YI:AH),
(X none).wr P4 ((X none).n Kq)
3 [bool false] =
some YI ∧
[Mk.mark ((X none).n H9)] =
[Mk.mark ((X none).n H9)] ∧
∃(gW :
(((Nat ×
Nat ×
Nat ×
Nat×Int×Nat) ×
(Option (Nat×Nat) ×
Nat) ×
Int×Int) ×
(Option (Nat×Nat) ×
Nat×Nat) ×
Nat×Int×Int) ×
Int×Nat),
∃(_k53:Nat),
True ∧
[ptr
(some
(cr.1.1.1,
0)),
ptr
(some
(cr.1.1.2.1,
0)),
ptr
(some
(cr.1.1.2.2.1,
0)),
ptr
(some
(cr.1.1.2.2.2.1,
0)),
int i64
cr.1.1.2.2.2.2.1,
ptr
(some
(cr.1.1.2.2.2.2.2,
0)),
slice
cr.1.2.1.1
cr.1.2.1.2
cr.1.2.1.2,
int i64
cr.1.2.2.1,
int i64
cr.1.2.2.2,
slice
cr.2.1.1
cr.2.1.2.1
cr.2.1.2.2,
ptr
(some
(cr.2.2.1,
0)),
int i64
cr.2.2.2.1,
int i64
cr.2.2.2.2,
int i64
cr.2.2.2.2,
ptr
(some
((X none).n Kq,
0))] =
[ptr
(some
(gW.1.1.1.1,
0)),
ptr
(some
(gW.1.1.1.2.1,
0)),
ptr
(some
(gW.1.1.1.2.2.1,
0)),
ptr
(some
(gW.1.1.1.2.2.2.1,
0)),
int i64
gW.1.1.1.2.2.2.2.1,
ptr
(some
(gW.1.1.1.2.2.2.2.2,
0)),
slice
gW.1.1.2.1.1
gW.1.1.2.1.2
gW.1.1.2.1.2,
int i64
gW.1.1.2.2.1,
int i64
gW.1.1.2.2.2,
slice
gW.1.2.1.1
gW.1.2.1.2.1
gW.1.2.1.2.2,
ptr
(some
(gW.1.2.2.1,
0)),
int i64
gW.1.2.2.2.1,
int i64
gW.1.2.2.2.2,
int i64
gW.2.1,
ptr
(some
(gW.2.2,
0))] ∧
lJ gW YI
else
bif DY == (3:Int) then
∃(Ke P1 P0 PZ:Bool),
∃(Is:Int),
(X none).bC P4
cr.2.2.1
0 5 =
some
[bool Ke,
bool P1,
bool P0,
bool PZ,
int i64
Is] ∧
[bool Ke,bool P1,
bool P0,
bool PZ,
int i64
Is].length =
5 ∧
∃(YH:AH),
(X none).wr P4
((X none).n Kq)
0
[bool Ke,
bool P1,
bool P0,
bool PZ,
int
i64
Is] =
some YH ∧
[Mk.mark
((X none).n
H9)] =
[Mk.mark
((X none).n
H9)] ∧
∃(gr :
(((Nat ×
Nat ×
Nat ×
Nat ×
Int ×
Nat) ×
(Option
(Nat ×
Nat) ×
Nat) ×
Int ×
Int) ×
(Option
(Nat ×
Nat) ×
Nat ×
Nat) ×
Nat ×
Int ×
Int) ×
Int×Nat),
∃(_k54:Nat),
True ∧
[ptr
(some
(cr.1.1.1,
(0 :
Nat))),
ptr
(some
(cr.1.1.2.1,
(0 :
Nat))),
ptr
(some
(cr.1.1.2.2.1,
(0 :
Nat))),
ptr
(some
(cr.1.1.2.2.2.1,
(0 :
Nat))),
int
i64
cr.1.1.2.2.2.2.1,
ptr
(some
(cr.1.1.2.2.2.2.2,
(0 :
Nat))),
slice
cr.1.2.1.1
cr.1.2.1.2
cr.1.2.1.2,
int
i64
cr.1.2.2.1,
int
i64
cr.1.2.2.2,
slice
cr.2.1.1
cr.2.1.2.1
cr.2.1.2.2,
ptr
(some
(cr.2.2.1,
(0 :
Nat))),
int
i64
cr.2.2.2.1,
int
i64
cr.2.2.2.2,
int
i64
cr.2.2.2.2,
ptr
(some
((X
none).n
Kq,
(0 :
Nat)))] =
[ptr
(some
(gr.1.1.1.1,
(0 :
Nat))),
ptr
(some
(gr.1.1.1.2.1,
(0 :
Nat))),
ptr
(some
(gr.1.1.1.2.2.1,
(0 :
Nat))),
ptr
(some
(gr.1.1.1.2.2.2.1,
(0 :
Nat))),
int
i64
gr.1.1.1.2.2.2.2.1,
ptr
(some
(gr.1.1.1.2.2.2.2.2,
(0 :
Nat))),
slice
gr.1.1.2.1.1
gr.1.1.2.1.2
gr.1.1.2.1.2,
int
i64
gr.1.1.2.2.1,
int
i64
gr.1.1.2.2.2,
slice
gr.1.2.1.1
gr.1.2.1.2.1
gr.1.2.1.2.2,
ptr
(some
(gr.1.2.2.1,
(0 :
Nat))),
int
i64
gr.1.2.2.2.1,
int
i64
gr.1.2.2.2.2,
int
i64
gr.2.1,
ptr
(some
(gr.2.2,
(0 :
Nat)))] ∧
lJ gr YH
else
[Mk.mark ((X none).n H9)] =
[Mk.mark ((X none).n H9)] ∧
∃(hU :
(((Nat ×
Nat ×
Nat×Nat×Int×Nat) ×
(Option (Nat×Nat)×Nat) ×
Int×Int) ×
(Option (Nat×Nat) ×
Nat×Nat) ×
Nat×Int×Int) ×
Int×Nat),
∃(_k55:Nat),
True ∧
[ptr
(some
(cr.1.1.1,
0)),
ptr
(some
(cr.1.1.2.1,
0)),
ptr
(some
(cr.1.1.2.2.1,
0)),
ptr
(some
(cr.1.1.2.2.2.1,
0)),
int i64
cr.1.1.2.2.2.2.1,
ptr
(some
(cr.1.1.2.2.2.2.2,
0)),
slice
cr.1.2.1.1
cr.1.2.1.2
cr.1.2.1.2,
int i64
cr.1.2.2.1,
int i64
cr.1.2.2.2,
slice cr.2.1.1
cr.2.1.2.1
cr.2.1.2.2,
ptr
(some
(cr.2.2.1,
0)),
int i64
cr.2.2.2.1,
int i64
cr.2.2.2.2,
int i64
cr.2.2.2.2,
ptr
(some
((X none).n Kq,
0))] =
[ptr
(some
(hU.1.1.1.1,
0)),
ptr
(some
(hU.1.1.1.2.1,
0)),
ptr
(some
(hU.1.1.1.2.2.1,
0)),
ptr
(some
(hU.1.1.1.2.2.2.1,
0)),
int i64
hU.1.1.1.2.2.2.2.1,
ptr
(some
(hU.1.1.1.2.2.2.2.2,
0)),
slice
hU.1.1.2.1.1
hU.1.1.2.1.2
hU.1.1.2.1.2,
int i64
hU.1.1.2.2.1,
int i64
hU.1.1.2.2.2,
slice
hU.1.2.1.1
hU.1.2.1.2.1
hU.1.2.1.2.2,
ptr
(some
(hU.1.2.2.1,
0)),
int i64
hU.1.2.2.2.1,
int i64
hU.1.2.2.2.2,
int i64
hU.2.1,
ptr
(some
(hU.2.2,
0))] ∧
lJ hU P4) ∧
∀
(fq :
(((Nat×Nat×Nat×Nat×Int×Nat) ×
(Option (Nat×Nat)×Nat) ×
Int×Int) ×
(Option (Nat×Nat)×Nat×Nat) ×
Nat×Int×Int) ×
Int×Nat)
(P3:AH),
lJ fq P3 →
∃(SB Yv Yu Yt:Bool),
∃(Lc:Int),
(X none).bC P3 fq.2.2
0 5 =
some
[bool SB,bool Yv,
bool Yu,bool Yt,
int i64 Lc] ∧
∃(Xc Xb:Nat),
(fq.1.2.1.1 =
some (Xc,Xb) ∧
(0:Int) ≤
fq.2.1 ∧
fq.2.1 <
(↑fq.1.2.1.2.1 :
Int)) ∧
∃(Ys Yr Yq Yp:Bool),
∃(Lb:Int),
(X none).bC P3
Xc
(Xb +
fq.2.1.toNat *
(6 :
Nat) +
(1 :
Nat))
(5 :
Nat) =
some
[bool
Ys,
bool
Yr,
bool
Yq,
bool
Yp,
int
i64
Lb] ∧
bif
!(SB ==
Ys &&
(Yv ==
Yr &&
(Yu ==
Yq &&
(Yt ==
Yp &&
(Lc ==
Lb &&
true))))) then
∃(V9 :
Bool),
∃(V8 :
Bool),
∃(V7 :
Bool),
∃(V6
:
Bool),
∃
(JY
:
Int),
(X
none).bC
P3
fq.2.2
(0 :
Nat)
(5 :
Nat) =
some
[bool
V9,
bool
V8,
bool
V7,
bool
V6,
int
i64
JY] ∧
∃
(Xa
:
Nat),
∃
(W9
:
Nat),
(fq.1.2.1.1 =
some
(Xa,
W9) ∧
(0 :
Int) ≤
fq.2.1 ∧
fq.2.1 <
(↑fq.1.2.1.2.1 :
Int)) ∧
[bool
V9,
bool
V8,
bool
V7,
bool
V6,
int
i64
JY].length =
(5 :
Nat) ∧
∃
(YG
:
AH),
(X
none).wr
P3
Xa
(W9 +
fq.2.1.toNat *
(6 :
Nat) +
(1 :
Nat))
[bool
V9,
bool
V8,
bool
V7,
bool
V6,
int
i64
JY] =
some
YG ∧
[Mk.mark
((X
none).n
H9)] =
[Mk.mark
((X
none).n
H9)] ∧
∃
(cF
:
((Nat ×
Nat ×
Nat ×
Nat ×
Int ×
Nat) ×
(Option
(Nat ×
Nat) ×
Nat) ×
Int ×
Int) ×
(Option
(Nat ×
Nat) ×
Nat ×
Nat) ×
Nat ×
Int ×
Int),
∃
(_k60
:
Nat),
True ∧
[ptr
(some
(fq.1.1.1.1,
(0 :
Nat))),
ptr
(some
(fq.1.1.1.2.1,
(0 :
Nat))),
ptr
(some
(fq.1.1.1.2.2.1,
(0 :
Nat))),
ptr
(some
(fq.1.1.1.2.2.2.1,
(0 :
Nat))),
int
i64
((X
none).wrap
i64
(fq.1.1.1.2.2.2.2.1 +
(1 :
Int))),
ptr
(some
(fq.1.1.1.2.2.2.2.2,
(0 :
Nat))),
slice
fq.1.1.2.1.1
fq.1.1.2.1.2
fq.1.1.2.1.2,
int
i64
fq.1.1.2.2.1,
int
i64
fq.1.1.2.2.2,
slice
fq.1.2.1.1
fq.1.2.1.2.1
fq.1.2.1.2.2,
ptr
(some
(fq.1.2.2.1,
(0 :
Nat))),
int
i64
fq.1.2.2.2.1,
int
i64
fq.1.2.2.2.2] =
[ptr
(some
(cF.1.1.1,
(0 :
Nat))),
ptr
(some
(cF.1.1.2.1,
(0 :
Nat))),
ptr
(some
(cF.1.1.2.2.1,
(0 :
Nat))),
ptr
(some
(cF.1.1.2.2.2.1,
(0 :
Nat))),
int
i64
cF.1.1.2.2.2.2.1,
ptr
(some
(cF.1.1.2.2.2.2.2,
(0 :
Nat))),
slice
cF.1.2.1.1
cF.1.2.1.2
cF.1.2.1.2,
int
i64
cF.1.2.2.1,
int
i64
cF.1.2.2.2,
slice
cF.2.1.1
cF.2.1.2.1
cF.2.1.2.2,
ptr
(some
(cF.2.2.1,
(0 :
Nat))),
int
i64
cF.2.2.2.1,
int
i64
cF.2.2.2.2] ∧
lN
cF
YG
else
[Mk.mark
((X
none).n
H9)] =
[Mk.mark
((X
none).n
H9)] ∧
∃(ct :
((Nat ×
Nat ×
Nat ×
Nat ×
Int ×
Nat) ×
(Option
(Nat ×
Nat) ×
Nat) ×
Int ×
Int) ×
(Option
(Nat ×
Nat) ×
Nat ×
Nat) ×
Nat ×
Int ×
Int),
∃(_k61 :
Nat),
True ∧
[ptr
(some
(fq.1.1.1.1,
(0 :
Nat))),
ptr
(some
(fq.1.1.1.2.1,
(0 :
Nat))),
ptr
(some
(fq.1.1.1.2.2.1,
(0 :
Nat))),
ptr
(some
(fq.1.1.1.2.2.2.1,
(0 :
Nat))),
int
i64
fq.1.1.1.2.2.2.2.1,
ptr
(some
(fq.1.1.1.2.2.2.2.2,
(0 :
Nat))),
slice
fq.1.1.2.1.1
fq.1.1.2.1.2
fq.1.1.2.1.2,
int
i64
fq.1.1.2.2.1,
int
i64
fq.1.1.2.2.2,
slice
fq.1.2.1.1
fq.1.2.1.2.1
fq.1.2.1.2.2,
ptr
(some
(fq.1.2.2.1,
(0 :
Nat))),
int
i64
fq.1.2.2.2.1,
int
i64
fq.1.2.2.2.2] =
[ptr
(some
(ct.1.1.1,
(0 :
Nat))),
ptr
(some
(ct.1.1.2.1,
(0 :
Nat))),
ptr
(some
(ct.1.1.2.2.1,
(0 :
Nat))),
ptr
(some
(ct.1.1.2.2.2.1,
(0 :
Nat))),
int
i64
ct.1.1.2.2.2.2.1,
ptr
(some
(ct.1.1.2.2.2.2.2,
(0 :
Nat))),
slice
ct.1.2.1.1
ct.1.2.1.2
ct.1.2.1.2,
int
i64
ct.1.2.2.1,
int
i64
ct.1.2.2.2,
slice
ct.2.1.1
ct.2.1.2.1
ct.2.1.2.2,
ptr
(some
(ct.2.2.1,
(0 :
Nat))),
int
i64
ct.2.2.2.1,
int
i64
ct.2.2.2.2] ∧
lN
ct
P3) ∧
∀
(gF :
((Nat×Nat×Nat×Nat×Int×Nat) ×
(Option (Nat×Nat)×Nat)×Int×Int) ×
(Option (Nat×Nat)×Nat×Nat)×Nat×Int×Int)
(YF:AH),
lN gF YF →
[Mk.mark ((X none).n H9)]=[Mk.mark ((X none).n H9)] ∧
∃(jU :
((Nat×Nat×Nat×Nat×Int×Nat) ×
(Option (Nat×Nat)×Nat)×Int×Int) ×
(Option (Nat×Nat)×Nat×Nat)×Nat×Int×Int),
∃(W8:Nat),
W8<Xf ∧
[ptr (some (gF.1.1.1,0)),
ptr (some (gF.1.1.2.1,0)),
ptr (some (gF.1.1.2.2.1,0)),
ptr (some (gF.1.1.2.2.2.1,0)),
int i64 gF.1.1.2.2.2.2.1,
ptr
(some (gF.1.1.2.2.2.2.2,0)),
slice gF.1.2.1.1 gF.1.2.1.2
gF.1.2.1.2,
int i64 gF.1.2.2.1,
int i64 gF.1.2.2.2,
slice gF.2.1.1 gF.2.1.2.1
gF.2.1.2.2,
ptr (some (gF.2.2.1,0)),
int i64 gF.2.2.2.1,
int i64
((X none).wrap i64
(gF.2.2.2.2+(1:Int)))] =
[ptr (some (jU.1.1.1,0)),
ptr (some (jU.1.1.2.1,0)),
ptr (some (jU.1.1.2.2.1,0)),
ptr (some (jU.1.1.2.2.2.1,0)),
int i64 jU.1.1.2.2.2.2.1,
ptr
(some (jU.1.1.2.2.2.2.2,0)),
slice jU.1.2.1.1 jU.1.2.1.2
jU.1.2.1.2,
int i64 jU.1.2.2.1,
int i64 jU.1.2.2.2,
slice jU.2.1.1 jU.2.1.2.1
jU.2.1.2.2,
ptr (some (jU.2.2.1,0)),
int i64 jU.2.2.2.1,
int i64 jU.2.2.2.2] ∧
vr jU YF W8
else
[Mk.mark ((X none).n H9)]=[Mk.mark ((X none).n H9)] ∧
∃(zP :
(Nat×Nat×Nat×Nat×Int×Nat) ×
(Option (Nat×Nat)×Nat)×Int×Int),
∃(W6:Nat),
W6<QL ∧
[ptr (some (cr.1.1.1,0)),
ptr (some (cr.1.1.2.1,0)),
ptr (some (cr.1.1.2.2.1,0)),
ptr (some (cr.1.1.2.2.2.1,0)),
int i64 cr.1.1.2.2.2.2.1,
ptr (some (cr.1.1.2.2.2.2.2,0)),
slice cr.1.2.1.1 cr.1.2.1.2
cr.1.2.1.2,
int i64 cr.1.2.2.1,
int i64
((X none).wrap i64 (cr.1.2.2.2+(1:Int)))] =
[ptr (some (zP.1.1,0)),
ptr (some (zP.1.2.1,0)),
ptr (some (zP.1.2.2.1,0)),
ptr (some (zP.1.2.2.2.1,0)),
int i64 zP.1.2.2.2.2.1,
ptr (some (zP.1.2.2.2.2.2,0)),
slice zP.2.1.1 zP.2.1.2 zP.2.1.2,
int i64 zP.2.2.1,
int i64 zP.2.2.2] ∧
gX zP Kq W6
else
∃(WM:Option (Nat×Nat)),
∃(W5 W4:Nat),
(X none).aM SP fF.1.2.2.2.2.2 0=some (slice WM W5 W4) ∧
(X none).call 28 [slice WM W5 W4] SP fun (v7:AV) (H46:AH) =>
∃(Ud:List UInt8),
∃(Uj:Option (Nat×Nat)),
∃(Uw Uv:Nat),
∃(Ir:Int),
v7=tuple [agg [str Ud,slice Uj Uw Uv],int i64 Ir] ∧
[str Ud,slice Uj Uw Uv].length=2 ∧
∃(P2:AH),
(X none).wr H46 fF.1.2.1 0 [str Ud,slice Uj Uw Uv]=some P2 ∧
bif Ir != (0:Int) then
[str [],slice none 0 0].length=2 ∧
∃(YE:AH),
(X none).wr P2 fF.1.2.1 0 [str [],slice none 0 0] =
some YE ∧
1=1 ∧
∃(YD:AH),
(X none).wr YE fF.1.2.2.1 0 [int i64 0] =
some YD ∧
1=1 ∧
∃(YC:AH),
(X none).wr YD fF.1.2.2.2.1 0
[int i64 0] =
some YC ∧
∃(SO:AH),
(X none).tm [Mk.mark ((X none).n H9)] YC=some SO ∧
∃(WB:List UInt8),
∃(WL:Option (Nat×Nat)),
∃(W3 WZ:Nat),
(X none).bC SO fF.1.2.1 0 2 =
some [str WB,slice WL W3 WZ] ∧
∃(La:Int),
(X none).aM SO fF.1.2.2.1 0 =
some (int i64 La) ∧
∃(MO:Int),
(X none).aM SO fF.1.2.2.2.1 0 =
some (int i64 MO) ∧
Q
(tuple
[agg [str WB,slice WL W3 WZ],
int i64 La,int i64 MO,
int i64 0,
int i64 Ir])
SO
else
∃(Uc:List UInt8),
∃(Ui:Option (Nat×Nat)),
∃(Uu Ut:Nat),
(X none).bC P2 fF.1.2.1 0 2 =
some [str Uc,slice Ui Uu Ut] ∧
∃(JX:Int),
(X none).aM P2 fF.1.2.2.1 0=some (int i64 JX) ∧
∃(GG:Int),
(X none).aM P2 fF.1.2.2.2.1 0 =
some (int i64 GG) ∧
[str Uc,slice Ui Uu Ut].length=2 ∧
∃(TW:AH),
(X none).wr P2 fF.1.2.1 0
[str Uc,slice Ui Uu Ut] =
some TW ∧
(∃(MN:Int),
(X none).aM TW fF.1.2.2.2.1 0 =
some (int i64 MN) ∧
int i64 MN=int i64 GG) ∧
(∃(MM:Int),
(X none).aM TW fF.1.2.2.1 0 =
some (int i64 MM) ∧
int i64 MM=int i64 JX) ∧
[int i64 JX].length=1 ∧
∃(Wj:AH),
(X none).wr TW fF.1.2.2.1 0
[int i64 JX] =
some Wj ∧
(∃(ML:Int),
(X none).aM Wj fF.1.2.2.2.1 0 =
some (int i64 ML) ∧
int i64 ML=int i64 GG) ∧
[int i64 GG].length=1 ∧
∃(YB:AH),
(X none).wr Wj fF.1.2.2.2.1 0
[int i64 GG] =
some YB ∧
∃(SN:AH),
(X none).tm [Mk.mark ((X none).n H9)] YB =
some SN ∧
∃(WA:List UInt8),
∃(WK:Option (Nat×Nat)),
∃(WY WX:Nat),
(X none).bC SN fF.1.2.1
0 2 =
some
[str WA,
slice WK WY WX] ∧
∃(MK:Int),
(X none).aM SN fF.1.2.2.1
0 =
some (int i64 MK) ∧
∃(MJ:Int),
(X none).aM SN
fF.1.2.2.2.1
0 =
some
(int i64 MJ) ∧
Q
(tuple
[agg
[str WA,
slice WK WY
WX],
int i64 MK,
int i64 MJ,
int i64
fF.1.2.2.2.2.1,
int i64
(0:Int)])
SN) ∧
True):=by kernel_rfl
end Go.Proofs.YtlkdhhkncoekgaaGreatDoor
