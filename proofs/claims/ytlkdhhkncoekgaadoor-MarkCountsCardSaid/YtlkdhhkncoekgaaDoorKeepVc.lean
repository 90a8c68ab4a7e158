/- What functions ask (printed). -/
import Derived.Test.YtlkdhhkncoekgaaDoorAmTri
import Derived.Test.YtlkdhhkncoekgaaDoorTabs
namespace Go.Proofs.YtlkdhhkncoekgaaDoor
open Go.Am Go
open _root_.Go.Am.AV (int slice ptr str bool agg tuple)
open _root_.Go.IntKind (i64 i32 u8 u64)
open _root_.Go.Am.aS (cells)
theorem BC (X:aN) (xf xt xk xv yf yt yk yv:Int) (H:AH) (Q:AV→AH→Prop):(gP X Tryd.prog [] 85 [.agg [.int .i64 xf,.int .i64 xt,.int .i64 xk,.int .i64 xv],.agg [.int .i64 yf,.int .i64 yt,.int .i64 yk,.int .i64 yv]] H Q) =
(true=true ∧
true=true ∧
∃(n1:Int),
X.aM
(X.al (X.al H (cells [int i64 xf,int i64 xt,int i64 xk,int i64 xv] 41 { whole:=true }))
(cells [int i64 yf,int i64 yt,int i64 yk,int i64 yv] 41 { whole:=true }))
(X.n H) 0 =
some (int i64 n1) ∧
∃(n2:Int),
X.aM
(X.al (X.al H (cells [int i64 xf,int i64 xt,int i64 xk,int i64 xv] 41 { whole:=true }))
(cells [int i64 yf,int i64 yt,int i64 yk,int i64 yv] 41 { whole:=true }))
(X.n (X.al H (cells [int i64 xf,int i64 xt,int i64 xk,int i64 xv] 41 { whole:=true }))) 0 =
some (int i64 n2) ∧
∃(n3:Int),
X.aM
(X.al (X.al H (cells [int i64 xf,int i64 xt,int i64 xk,int i64 xv] 41 { whole:=true }))
(cells [int i64 yf,int i64 yt,int i64 yk,int i64 yv] 41 { whole:=true }))
(X.n H) 1 =
some (int i64 n3) ∧
∃(n4:Int),
X.aM
(X.al (X.al H (cells [int i64 xf,int i64 xt,int i64 xk,int i64 xv] 41 { whole:=true }))
(cells [int i64 yf,int i64 yt,int i64 yk,int i64 yv] 41 { whole:=true }))
(X.n (X.al H (cells [int i64 xf,int i64 xt,int i64 xk,int i64 xv] 41 { whole:=true }))) 1 =
some (int i64 n4) ∧
Q (bool (decide (n1≥n2) && decide (n3≤n4)))
(X.al (X.al H (cells [int i64 xf,int i64 xt,int i64 xk,int i64 xv] 41 { whole:=true }))
(cells [int i64 yf,int i64 yt,int i64 yk,int i64 yv] 41 { whole:=true }))):=by kernel_rfl
theorem zn (X:aN) (xf xt xk xv yf yt yk yv:Int) (H:AH) (Q:AV→AH→Prop):(gP X Tryd.prog [] 66 [.agg [.int .i64 xf,.int .i64 xt,.int .i64 xk,.int .i64 xv],.agg [.int .i64 yf,.int .i64 yt,.int .i64 yk,.int .i64 yv]] H Q) =
(true=true ∧
true=true ∧
∃(n1:Int),
X.aM
(X.al (X.al H (cells [int i64 xf,int i64 xt,int i64 xk,int i64 xv] 41 { whole:=true }))
(cells [int i64 yf,int i64 yt,int i64 yk,int i64 yv] 41 { whole:=true }))
(X.n H) 0 =
some (int i64 n1) ∧
∃(n2:Int),
X.aM
(X.al (X.al H (cells [int i64 xf,int i64 xt,int i64 xk,int i64 xv] 41 { whole:=true }))
(cells [int i64 yf,int i64 yt,int i64 yk,int i64 yv] 41 { whole:=true }))
(X.n (X.al H (cells [int i64 xf,int i64 xt,int i64 xk,int i64 xv] 41 { whole:=true }))) 1 =
some (int i64 n2) ∧
∃(n3:Int),
X.aM
(X.al (X.al H (cells [int i64 xf,int i64 xt,int i64 xk,int i64 xv] 41 { whole:=true }))
(cells [int i64 yf,int i64 yt,int i64 yk,int i64 yv] 41 { whole:=true }))
(X.n (X.al H (cells [int i64 xf,int i64 xt,int i64 xk,int i64 xv] 41 { whole:=true }))) 0 =
some (int i64 n3) ∧
∃(n4:Int),
X.aM
(X.al (X.al H (cells [int i64 xf,int i64 xt,int i64 xk,int i64 xv] 41 { whole:=true }))
(cells [int i64 yf,int i64 yt,int i64 yk,int i64 yv] 41 { whole:=true }))
(X.n H) 1 =
some (int i64 n4) ∧
∃(n5 n6 n7 n8:Int),
X.bP
(X.al (X.al H (cells [int i64 xf,int i64 xt,int i64 xk,int i64 xv] 41 { whole:=true }))
(cells [int i64 yf,int i64 yt,int i64 yk,int i64 yv] 41 { whole:=true }))
(X.n H) 0 4 =
some [int i64 n5,int i64 n6,int i64 n7,int i64 n8] ∧
∃(n9 fO iL kI:Int),
X.bP
(X.al (X.al H (cells [int i64 xf,int i64 xt,int i64 xk,int i64 xv] 41 { whole:=true }))
(cells [int i64 yf,int i64 yt,int i64 yk,int i64 yv] 41 { whole:=true }))
(X.n (X.al H (cells [int i64 xf,int i64 xt,int i64 xk,int i64 xv] 41 { whole:=true }))) 0 4 =
some [int i64 n9,int i64 fO,int i64 iL,int i64 kI] ∧
bif (decide (n1<n2) && decide (n3<n4)) == true then
X.call 85
[agg [int i64 n5,int i64 n6,int i64 n7,int i64 n8],
agg [int i64 n9,int i64 fO,int i64 iL,int i64 kI]]
(X.al (X.al H (cells [int i64 xf,int i64 xt,int i64 xk,int i64 xv] 41 { whole:=true }))
(cells [int i64 yf,int i64 yt,int i64 yk,int i64 yv] 41 { whole:=true }))
fun (v1:AV) (H1:AH) =>
∃(b1:Bool),
v1=bool b1 ∧
∃(jQ kX mS pW:Int),
X.bP H1 (X.n (X.al H (cells [int i64 xf,int i64 xt,int i64 xk,int i64 xv] 41 { whole:=true }))) 0 4 =
some [int i64 jQ,int i64 kX,int i64 mS,int i64 pW] ∧
∃(r8 uL xQ vL:Int),
X.bP H1 (X.n H) 0 4=some [int i64 r8,int i64 uL,int i64 xQ,int i64 vL] ∧
bif (!b1) == true then
X.call 85
[agg [int i64 jQ,int i64 kX,int i64 mS,int i64 pW],
agg [int i64 r8,int i64 uL,int i64 xQ,int i64 vL]]
H1 fun (v2:AV) (H2:AH)=>∃(b2:Bool),v2=bool b2∧Q (bool !b2) H2
else Q (bool false) H1
else
∃(Bc Dr B9 EZ:Int),
X.bP
(X.al (X.al H (cells [int i64 xf,int i64 xt,int i64 xk,int i64 xv] 41 { whole:=true }))
(cells [int i64 yf,int i64 yt,int i64 yk,int i64 yv] 41 { whole:=true }))
(X.n (X.al H (cells [int i64 xf,int i64 xt,int i64 xk,int i64 xv] 41 { whole:=true }))) 0 4 =
some [int i64 Bc,int i64 Dr,int i64 B9,int i64 EZ] ∧
∃(EY EX Dq Dp:Int),
X.bP
(X.al (X.al H (cells [int i64 xf,int i64 xt,int i64 xk,int i64 xv] 41 { whole:=true }))
(cells [int i64 yf,int i64 yt,int i64 yk,int i64 yv] 41 { whole:=true }))
(X.n H) 0 4 =
some [int i64 EY,int i64 EX,int i64 Dq,int i64 Dp] ∧
Q (bool false)
(X.al (X.al H (cells [int i64 xf,int i64 xt,int i64 xk,int i64 xv] 41 { whole:=true }))
(cells [int i64 yf,int i64 yt,int i64 yk,int i64 yv] 41 { whole:=true }))):=by kernel_rfl
theorem Ev (X:aN) (xf xt xk xv:Int) (n:Int) (H:AH) (Q:AV→AH→Prop):(gP X Tryd.prog [] 63 [.agg [.int .i64 xf,.int .i64 xt,.int .i64 xk,.int .i64 xv],.int .i64 n] H Q) =
(true=true ∧
∃(n1:Int),
X.aM (X.al H (cells [int i64 xf,int i64 xt,int i64 xk,int i64 xv] 41 { whole:=true })) (X.n H) 0=some (int i64 n1) ∧
∃(n2:Int),
X.aM (X.al H (cells [int i64 xf,int i64 xt,int i64 xk,int i64 xv] 41 { whole:=true })) (X.n H) 1=some (int i64 n2) ∧
∃(n3:Int),
X.aM (X.al H (cells [int i64 xf,int i64 xt,int i64 xk,int i64 xv] 41 { whole:=true })) (X.n H) 0=some (int i64 n3) ∧
∃(n4:Int),
X.aM (X.al H (cells [int i64 xf,int i64 xt,int i64 xk,int i64 xv] 41 { whole:=true })) (X.n H) 1=some (int i64 n4) ∧
∃(n5:Int),
X.aM (X.al H (cells [int i64 xf,int i64 xt,int i64 xk,int i64 xv] 41 { whole:=true })) (X.n H) 2=some (int i64 n5) ∧
∃(n6:Int),
X.aM (X.al H (cells [int i64 xf,int i64 xt,int i64 xk,int i64 xv] 41 { whole:=true })) (X.n H) 2=some (int i64 n6) ∧
bif decide (n1<(0:Int)) || decide (n2≤n3) || decide (n4 > n) || decide (n5<(1:Int)) || decide (n6 > (5:Int)) then
Q (bool false) (X.al H (cells [int i64 xf,int i64 xt,int i64 xk,int i64 xv] 41 { whole:=true }))
else
∃(n7:Int),
X.aM (X.al H (cells [int i64 xf,int i64 xt,int i64 xk,int i64 xv] 41 { whole:=true })) (X.n H) 2=some (int i64 n7) ∧
bif n7 == (5:Int) then
∃(n8:Int),
X.aM (X.al H (cells [int i64 xf,int i64 xt,int i64 xk,int i64 xv] 41 { whole:=true })) (X.n H) 3=some (int i64 n8) ∧
∃(n9:Int),
X.aM (X.al H (cells [int i64 xf,int i64 xt,int i64 xk,int i64 xv] 41 { whole:=true })) (X.n H) 3=some (int i64 n9) ∧
Q (bool (decide (n8≥(0:Int)) && decide (n9≤(16777215:Int))))
(X.al H (cells [int i64 xf,int i64 xt,int i64 xk,int i64 xv] 41 { whole:=true }))
else
∃(fO:Int),
X.aM (X.al H (cells [int i64 xf,int i64 xt,int i64 xk,int i64 xv] 41 { whole:=true })) (X.n H) 3=some (int i64 fO) ∧
Q (bool (fO == (0:Int))) (X.al H (cells [int i64 xf,int i64 xt,int i64 xk,int i64 xv] 41 { whole:=true }))):=by kernel_rfl
theorem G2 (X:aN) (p:Nat) (xf xt xk xv:Int) (H:AH) (Q:AV→AH→Prop):(gP X Tryd.prog [] 65 [.agg [.int .i64 xf,.int .i64 xt,.int .i64 xk,.int .i64 xv],.ptr (some (p,0))] H Q) =
(true=true ∧
∃(n1 n2 n3 n4:Int),
X.bP (X.al H (cells [int i64 xf,int i64 xt,int i64 xk,int i64 xv] 41 { whole:=true })) p 0 4 =
some [int i64 n1,int i64 n2,int i64 n3,int i64 n4] ∧
∃(n5 n6 n7 n8:Int),
X.bP (X.al H (cells [int i64 xf,int i64 xt,int i64 xk,int i64 xv] 41 { whole:=true })) (X.n H) 0 4 =
some [int i64 n5,int i64 n6,int i64 n7,int i64 n8] ∧
X.call 66
[agg [int i64 n1,int i64 n2,int i64 n3,int i64 n4],agg [int i64 n5,int i64 n6,int i64 n7,int i64 n8]]
(X.al H (cells [int i64 xf,int i64 xt,int i64 xk,int i64 xv] 41 { whole:=true })) fun (v1:AV) (H1:AH) =>
∃(b1:Bool),v1=bool b1∧Q (bool b1) H1):=by kernel_rfl
theorem JZ (X:Option Nat→aN) (It:FuncId→List AV→List AV→(AH→Prop)→List (List AV)→Prop) (q:Option (Nat×Nat)) (k c p:Nat) (H:AH) (Q:AV→AH→Prop):(oh X It Tryd.prog [⟨2,Int,[0,1,7,8],fun x=>[.slice q k c,.func (.func 65) [] [.ptr (some (p,0))],.int .i64 k,.int .i64 x],fun _ _ _=>True⟩] [] 84 [.slice q k c,.func (.func 65) [] [.ptr (some (p,0))]] H Q) =
(∃(x1:Int→AH→Nat→Prop),
(∃(n1:Int),
∃(k1:Nat),
[slice q k c,AV.func (Fn.func (65:FuncId)) [] [ptr (some (p,(0:Nat)))],int i64 (↑k:Int),int i64 0] =
[slice q k c,AV.func (Fn.func (65:FuncId)) [] [ptr (some (p,(0:Nat)))],int i64 (↑k:Int),int i64 n1] ∧
x1 n1 H k1) ∧
∀(n2:Int) (H1:AH) (k2:Nat),
x1 n2 H1 k2 →
bif decide (n2<(↑k:Int)) then
∃(k3 k4:Nat),
(q=some (k3,k4)∧(0:Int)≤n2∧n2<(↑k:Int)) ∧
∃(n3 n4 n5 n6:Int),
(X none).bP H1 k3 (k4+n2.toNat*4) 4=some [int i64 n3,int i64 n4,int i64 n5,int i64 n6] ∧
(X none).call (65:FuncId) [agg [int i64 n3,int i64 n4,int i64 n5,int i64 n6],ptr (some (p,0))] H1 fun (v1:AV) (H2:AH) =>
∃(b1:Bool),
v1=bool b1 ∧
bif b1 then Q (int i64 n2) H2
else
∃(n7:Int),
∃(k5:Nat),
k5<k2 ∧
[slice q k c,AV.func (Fn.func (65:FuncId)) [] [ptr (some (p,(0:Nat)))],int i64 (↑k:Int),int i64 ((X none).wrap i64 (n2+(1:Int)))] =
[slice q k c,AV.func (Fn.func (65:FuncId)) [] [ptr (some (p,(0:Nat)))],int i64 (↑k:Int),int i64 n7] ∧
x1 n7 H2 k5
else Q (int i64 (-1:Int)) H1):=by kernel_rfl
theorem G0 (X:aN) (q:Option (Nat×Nat)) (k c p:Nat) (H:AH) (Q:AV→AH→Prop):(gP X Tryd.prog [] 64 [.slice q k c,.func (.func 65) [] [.ptr (some (p,0))]] H Q) =
(X.call 84 [slice q k c,AV.func (Fn.func (65:FuncId)) [] [ptr (some (p,0))]] H fun (v1:AV) (H1:AH)=>∃(n1:Int),v1=int i64 n1∧Q (bool (decide (n1≥(0:Int)))) H1):=by kernel_rfl
theorem Ez (X:Option Nat→aN) (It:FuncId→List AV→List AV→(AH→Prop)→List (List AV)→Prop) (s:List UInt8) (q:Option (Nat×Nat)) (k c:Nat) (H:AH) (Q:AV→AH→Prop):(oh X It Tryd.prog [⟨7,Nat×Int×(Option (Nat×Nat)×Nat×Nat)×Int×Int,[1,3,20,21,22],fun x=>[.ptr (some (x.1,0)),.int .i64 x.2.1,.slice x.2.2.1.1 x.2.2.1.2.1 x.2.2.1.2.2,.int .i64 x.2.2.2.1,.int .i64 x.2.2.2.2],fun _ _ _=>True⟩,⟨200010,(Nat×Int×(Option (Nat×Nat)×Nat×Nat)×Int×Int)×Bool,[1,3,20,21,22,38],fun x=>[.ptr (some (x.1.1,0)),.int .i64 x.1.2.1,.slice x.1.2.2.1.1 x.1.2.2.1.2.1 x.1.2.2.1.2.2,.int .i64 x.1.2.2.2.1,.int .i64 x.1.2.2.2.2,.bool x.2],fun _ _ _=>True⟩] [] 36 [.agg [.str s,.slice q k c]] H Q) =
(true=true ∧
∃(s1:List UInt8),
(X none).aM ((X none).al H (cells [str s,slice q k c] 26 { whole:=true })) ((X none).n H) 0=some (str s1) ∧
bif decide ((↑s1.length:Int) > (4096:Int)) then Q (int i64 3) ((X none).al H (cells [str s,slice q k c] (26:Nat) { whole:=true }))
else
∃(q1:Option (Nat×Nat)),
∃(k1 k2:Nat),
(X none).aM ((X none).al H (cells [str s,slice q k c] 26 { whole:=true })) ((X none).n H) 1=some (slice q1 k1 k2) ∧
bif decide ((↑k1:Int) > (256:Int)) then Q (int i64 2) ((X none).al H (cells [str s,slice q k c] (26:Nat) { whole:=true }))
else
∃(s2:List UInt8),
(X none).aM ((X none).al H (cells [str s,slice q k c] 26 { whole:=true })) ((X none).n H) 0=some (str s2) ∧
(X none).call 62 [str s2] ((X none).al H (cells [str s,slice q k c] 26 { whole:=true })) fun (v1:AV) (H1:AH) =>
∃(n1:Int),
v1=int i64 n1 ∧
∃(q2:Option (Nat×Nat)),
∃(k3 k4:Nat),
(X none).aM H1 ((X none).n H) 1=some (slice q2 k3 k4) ∧
∃(x1:Nat×Int×(Option (Nat×Nat)×Nat×Nat)×Int×Int→AH→Nat→Prop),
(∃(x2:Nat×Int×(Option (Nat×Nat)×Nat×Nat)×Int×Int),
∃(k5:Nat),
[ptr (some ((X none).n H,(0:Nat))),int i64 n1,slice q2 k3 k4,int i64 (↑k3:Int),int i64 0] =
[ptr (some (x2.1,0)),int i64 x2.2.1,slice x2.2.2.1.1 x2.2.2.1.2.1 x2.2.2.1.2.2,int i64 x2.2.2.2.1,
int i64 x2.2.2.2.2] ∧
x1 x2 H1 k5) ∧
∀(x3:Nat×Int×(Option (Nat×Nat)×Nat×Nat)×Int×Int) (H2:AH) (k6:Nat),
x1 x3 H2 k6 →
bif decide (x3.2.2.2.2<x3.2.2.2.1) then
∃(k7 k8:Nat),
(x3.2.2.1.1=some (k7,k8)∧(0:Int)≤x3.2.2.2.2∧x3.2.2.2.2<(↑x3.2.2.1.2.1:Int)) ∧
∃(n2 n3 n4 n5:Int),
(X none).bP H2 k7 (k8+x3.2.2.2.2.toNat*4) 4=some [int i64 n2,int i64 n3,int i64 n4,int i64 n5] ∧
[int i64 n2,int i64 n3,int i64 n4,int i64 n5].length=4 ∧
∃(H3:AH),
(X none).wr
((X none).al H2
(cells [int i64 0,int i64 0,int i64 0,int i64 0] 41 { whole:=true }))
((X none).n H2) 0 [int i64 n2,int i64 n3,int i64 n4,int i64 n5] =
some H3 ∧
∃(x4:(Nat×Int×(Option (Nat×Nat)×Nat×Nat)×Int×Int)×Bool→AH→Prop),
(∃(n6 n7 n8 n9:Int),
(X none).bP H3 ((X none).n H2) 0 4=some [int i64 n6,int i64 n7,int i64 n8,int i64 n9] ∧
(X none).call 63 [agg [int i64 n6,int i64 n7,int i64 n8,int i64 n9],int i64 x3.2.1]
H3 fun (v2:AV) (H4:AH) =>
∃(b1:Bool),
v2=bool b1 ∧
∃(q3:Option (Nat×Nat)),
∃(k9 nO:Nat),
(X none).aM H4 x3.1 1=some (slice q3 k9 nO) ∧
∃(q4:Option (Nat×Nat)),
∃(gQ mF:Nat),
(((!b1) == false)=true →
(X none).JS 24 (slice q3 k9 nO) none (some (int i64 x3.2.2.2.2)) none H4 =
some (slice q4 gQ mF)) ∧
bif (!b1) == false then
(X none).call 64 [slice q4 gQ mF,AV.func (Fn.func 65) [] [ptr (some ((X none).n H2,0))]] H4
fun (v3:AV) (H5:AH) =>
∃(b2:Bool),
v3=bool b2 ∧
∃(x5:(Nat×Int×(Option (Nat×Nat)×Nat×Nat)×Int×Int)×Bool),
∃(_k13:Nat),
True ∧
[ptr (some (x3.1,0)),int i64 x3.2.1,
slice x3.2.2.1.1 x3.2.2.1.2.1 x3.2.2.1.2.2,int i64 x3.2.2.2.1,
int i64 x3.2.2.2.2,bool b2] =
[ptr (some (x5.1.1,0)),int i64 x5.1.2.1,
slice x5.1.2.2.1.1 x5.1.2.2.1.2.1 x5.1.2.2.1.2.2,
int i64 x5.1.2.2.2.1,int i64 x5.1.2.2.2.2,bool x5.2] ∧
x4 x5 H5
else
∃(x6:(Nat×Int×(Option (Nat×Nat)×Nat×Nat)×Int×Int)×Bool),
∃(_k14:Nat),
True ∧
[ptr (some (x3.1,0)),int i64 x3.2.1,
slice x3.2.2.1.1 x3.2.2.1.2.1 x3.2.2.1.2.2,int i64 x3.2.2.2.1,
int i64 x3.2.2.2.2,bool true] =
[ptr (some (x6.1.1,0)),int i64 x6.1.2.1,
slice x6.1.2.2.1.1 x6.1.2.2.1.2.1 x6.1.2.2.1.2.2,
int i64 x6.1.2.2.2.1,int i64 x6.1.2.2.2.2,bool x6.2] ∧
x4 x6 H4) ∧
∀(x7:(Nat×Int×(Option (Nat×Nat)×Nat×Nat)×Int×Int)×Bool) (H6:AH),
x4 x7 H6 →
bif x7.2 then Q (int i64 23) H6
else
∃(x8:Nat×Int×(Option (Nat×Nat)×Nat×Nat)×Int×Int),
∃(nh:Nat),
nh<k6 ∧
[ptr (some (x7.1.1,0)),int i64 x7.1.2.1,
slice x7.1.2.2.1.1 x7.1.2.2.1.2.1 x7.1.2.2.1.2.2,int i64 x7.1.2.2.2.1,
int i64 ((X none).wrap i64 (x7.1.2.2.2.2+(1:Int)))] =
[ptr (some (x8.1,0)),int i64 x8.2.1,slice x8.2.2.1.1 x8.2.2.1.2.1 x8.2.2.1.2.2,
int i64 x8.2.2.2.1,int i64 x8.2.2.2.2] ∧
x1 x8 H6 nh
else Q (int i64 0) H2):=by kernel_rfl
theorem BG (X:aN)  (H:AH) (Q:AV→AH→Prop):(gP X Tryd.prog [] 98 [.slice none 0 0] H Q) =
(Q (slice none 0 0) H):=by kernel_rfl
theorem Ey (X:aN) (b k c:Nat) (H:AH) (Q:AV→AH→Prop):(gP X Tryd.prog [] 98 [.slice (some (b,0)) k c] H Q) =
((0≤16777216∧4=4∧0<4∧true=true∧true=true) ∧
∃(q1:Option (Nat×Nat)),
∃(k1 k2:Nat),
∃(H1:AH),
X.app 24 24 (slice (some (X.n H,0)) 0 0) (slice (some (b,0)) k c) (X.al H (cells [] 41 { whole:=true }))=some (slice q1 k1 k2,H1) ∧
Q (slice q1 k1 k2) H1):=by kernel_rfl
theorem Ew (X:aN) (s:List UInt8) (q:Option (Nat×Nat)) (k c:Nat) (H:AH) (Q:AV→AH→Prop):(gP X Tryd.prog [] 86 [.agg [.str s,.slice q k c]] H Q) =
(true=true ∧
∃(q1:Option (Nat×Nat)),
∃(k1 k2:Nat),
X.aM (X.al H (cells [str s,slice q k c] 26 { whole:=true })) (X.n H) 1=some (slice q1 k1 k2) ∧
X.call 98 [slice q1 k1 k2] (X.al H (cells [str s,slice q k c] 26 { whole:=true })) fun (v1:AV) (H1:AH) =>
∃(q2:Option (Nat×Nat)),∃(k3:Nat),∃(k4:Nat),v1=slice q2 k3 k4∧X.call 99 [slice q2 k3 k4,AV.func (Fn.func 100) [] []] H1 fun (_v2:AV) (H2:AH)=>Q (slice q2 k3 k4) H2):=by kernel_rfl
theorem BE (X:aN) (xf xt xk xv yf yt yk yv:Int) (H:AH) (Q:AV→AH→Prop):(gP X Tryd.prog [] 100 [.agg [.int .i64 xf,.int .i64 xt,.int .i64 xk,.int .i64 xv],.agg [.int .i64 yf,.int .i64 yt,.int .i64 yk,.int .i64 yv]] H Q) =
(true=true ∧
true=true ∧
∃(n1:Int),
X.aM
(X.al (X.al H (cells [int i64 xf,int i64 xt,int i64 xk,int i64 xv] 41 { whole:=true }))
(cells [int i64 yf,int i64 yt,int i64 yk,int i64 yv] 41 { whole:=true }))
(X.n H) 0 =
some (int i64 n1) ∧
∃(n2:Int),
X.aM
(X.al (X.al H (cells [int i64 xf,int i64 xt,int i64 xk,int i64 xv] 41 { whole:=true }))
(cells [int i64 yf,int i64 yt,int i64 yk,int i64 yv] 41 { whole:=true }))
(X.n (X.al H (cells [int i64 xf,int i64 xt,int i64 xk,int i64 xv] 41 { whole:=true }))) 0 =
some (int i64 n2) ∧
∃(n3:Int),
X.aM
(X.al (X.al H (cells [int i64 xf,int i64 xt,int i64 xk,int i64 xv] 41 { whole:=true }))
(cells [int i64 yf,int i64 yt,int i64 yk,int i64 yv] 41 { whole:=true }))
(X.n (X.al H (cells [int i64 xf,int i64 xt,int i64 xk,int i64 xv] 41 { whole:=true }))) 1 =
some (int i64 n3) ∧
∃(n4:Int),
X.aM
(X.al (X.al H (cells [int i64 xf,int i64 xt,int i64 xk,int i64 xv] 41 { whole:=true }))
(cells [int i64 yf,int i64 yt,int i64 yk,int i64 yv] 41 { whole:=true }))
(X.n H) 1 =
some (int i64 n4) ∧
X.call 102 [int i64 n1,int i64 n2]
(X.al (X.al H (cells [int i64 xf,int i64 xt,int i64 xk,int i64 xv] 41 { whole:=true }))
(cells [int i64 yf,int i64 yt,int i64 yk,int i64 yv] 41 { whole:=true }))
fun (v1:AV) (H1:AH) =>
∃(n5:Int),
v1=int i64 n5 ∧
(∃(n6:Int),X.aM H1 (X.n H) 1=some (int i64 n6)∧int i64 n6=int i64 n4) ∧
(∃(n7:Int),
X.aM H1 (X.n (X.al H (cells [int i64 xf,int i64 xt,int i64 xk,int i64 xv] 41 { whole:=true }))) 1=some (int i64 n7) ∧
int i64 n7=int i64 n3) ∧
X.call 102 [int i64 n3,int i64 n4] H1 fun (v2:AV) (H2:AH) =>
∃(n8:Int),
v2=int i64 n8 ∧
(2≤16777216∧1=1∧0<1∧true=true∧true=true) ∧
X.call 101 [slice (some (X.n H2,0)) 2 2] (X.al H2 (cells [int i64 n5,int i64 n8] 3 { whole:=true })) fun (v3:AV) (H3:AH) =>
∃(n9:Int),v3=int i64 n9∧Q (int i64 n9) H3):=by kernel_rfl
theorem JY (X:aN) (b o:Nat) (xf xt xk xv:Int) (H:AH) (Q:AV→AH→Prop):(gP X Tryd.prog [] 87 [.ptr (some (b,o)),.agg [.int .i64 xf,.int .i64 xt,.int .i64 xk,.int .i64 xv]] H Q) =
(true=true ∧
∃(n1:Int),
X.aM (X.al H (cells [int i64 xf,int i64 xt,int i64 xk,int i64 xv] 41 { whole:=true })) (X.n H) 2=some (int i64 n1) ∧
bif n1 == (1:Int) then
1=1 ∧
∃(H1:AH),X.wr (X.al H (cells [int i64 xf,int i64 xt,int i64 xk,int i64 xv] 41 { whole:=true })) b (o+0) [bool true]=some H1∧Q (tuple []) H1
else
bif n1 == (2:Int) then
1=1 ∧
∃(H2:AH),X.wr (X.al H (cells [int i64 xf,int i64 xt,int i64 xk,int i64 xv] 41 { whole:=true })) b (o+1) [bool true]=some H2∧Q (tuple []) H2
else
bif n1 == (3:Int) then
1=1 ∧
∃(H3:AH),X.wr (X.al H (cells [int i64 xf,int i64 xt,int i64 xk,int i64 xv] 41 { whole:=true })) b (o+2) [bool true]=some H3∧Q (tuple []) H3
else
bif n1 == (4:Int) then
1=1 ∧
∃(H4:AH),
X.wr (X.al H (cells [int i64 xf,int i64 xt,int i64 xk,int i64 xv] 41 { whole:=true })) b (o+3) [bool true]=some H4∧Q (tuple []) H4
else
∃(n2:Int),
X.aM (X.al H (cells [int i64 xf,int i64 xt,int i64 xk,int i64 xv] 41 { whole:=true })) (X.n H) 3=some (int i64 n2) ∧
[int i64 (X.wrap i64 (n2+(1:Int)))].length=1 ∧
∃(H5:AH),
X.wr (X.al H (cells [int i64 xf,int i64 xt,int i64 xk,int i64 xv] 41 { whole:=true })) b (o+4)
[int i64 (X.wrap i64 (n2+(1:Int)))] =
some H5 ∧
Q (tuple []) H5):=by kernel_rfl
theorem FM (X:Option Nat→aN) (It:FuncId→List AV→List AV→(AH→Prop)→List (List AV)→Prop) (bk:Nat) (H:AH) (Q:AV→AH→Prop):(oh X It Tryd.prog [⟨3,Int,[3,6,7,8],fun x=>[.int .i64 0,.slice (some (bk,0)) 2 2,.int .i64 2,.int .i64 x],fun _ _ _=>True⟩] [] 101 [.slice (some (bk,0)) 2 2] H Q) =
(∃(x1:Int→AH→Nat→Prop),
(∃(n1:Int),
∃(k1:Nat),
[int i64 0,slice (some (bk,0)) 2 2,int i64 2,int i64 0] =
[int i64 0,slice (some (bk,0)) 2 2,int i64 2,int i64 n1] ∧
x1 n1 H k1) ∧
∀(n2:Int) (H1:AH) (k2:Nat),
x1 n2 H1 k2 →
bif decide (n2<(2:Int)) then
∃(k3 k4:Nat),
(some (bk,0)=some (k3,k4)∧(0:Int)≤n2∧n2<(2:Int)) ∧
∃(n3:Int),
(X none).aM H1 k3 (k4+n2.toNat*1)=some (int i64 n3) ∧
bif n3 != (0:Int) then Q (int i64 n3) H1
else
∃(n4:Int),
∃(k5:Nat),
k5<k2 ∧
[int i64 0,slice (some (bk,0)) 2 2,int i64 2,int i64 ((X none).wrap i64 (n2+(1:Int)))] =
[int i64 0,slice (some (bk,0)) 2 2,int i64 2,int i64 n4] ∧
x1 n4 H1 k5
else Q (int i64 0) H1):=by kernel_rfl
theorem Ex (X:Option Nat→aN) (It:FuncId→List AV→List AV→(AH→Prop)→List (List AV)→Prop) (s:List UInt8) (q:Option (Nat×Nat)) (k c:Nat) (H:AH) (Q:AV→AH→Prop):(oh X It Tryd.prog [⟨3,(Option (Nat×Nat)×Nat)×(Option (Nat×Nat)×Nat)×Int×Int,[3,12,13,14],fun x=>[.slice x.1.1 x.1.2 x.1.2,.slice x.2.1.1 x.2.1.2 x.2.1.2,.int .i64 x.2.2.1,.int .i64 x.2.2.2],fun _ _ _=>True⟩,⟨6,((Option (Nat×Nat)×Nat)×(Option (Nat×Nat)×Nat)×Int×Int)×Nat×Int,[3,12,13,14,5,6],fun x=>[.slice x.1.1.1 x.1.1.2 x.1.1.2,.slice x.1.2.1.1 x.1.2.1.2 x.1.2.1.2,.int .i64 x.1.2.2.1,.int .i64 x.1.2.2.2,.ptr (some (x.2.1,0)),.int .i64 x.2.2],fun _ _ _=>True⟩] [] 68 [.agg [.str s,.slice q k c]] H Q) =
(true=true ∧
∃(s1:List UInt8),
(X none).aM ((X none).al H (cells [str s,slice q k c] 26 { whole:=true })) ((X none).n H) 0=some (str s1) ∧
(X none).call 62 [str s1] ((X none).al H (cells [str s,slice q k c] 26 { whole:=true })) fun (v1:AV) (H1:AH) =>
∃(n1:Int),
v1=int i64 n1 ∧
∃(q1:Option (Nat×Nat)),
∃(k1 k2:Nat),
∃(H2:AH),
(X none).PS 50 n1 n1 H1=some (slice q1 k1 k2,H2) ∧
∃(s2:List UInt8),
∃(q2:Option (Nat×Nat)),
∃(k3 k4:Nat),
(X none).bP H2 ((X none).n H) 0 2=some [str s2,slice q2 k3 k4] ∧
(X none).call 86 [agg [str s2,slice q2 k3 k4]] H2 fun (v2:AV) (H3:AH) =>
∃(q3:Option (Nat×Nat)),
∃(k5 k6:Nat),
v2=slice q3 k5 k6 ∧
∃(x1:(Option (Nat×Nat)×Nat)×(Option (Nat×Nat)×Nat)×Int×Int→AH→Nat→Prop),
(∃(x2:(Option (Nat×Nat)×Nat)×(Option (Nat×Nat)×Nat)×Int×Int),
∃(k7:Nat),
[slice q1 k1 k2,slice q3 k5 k6,int i64 (↑k5:Int),int i64 0] =
[slice x2.1.1 x2.1.2 x2.1.2,slice x2.2.1.1 x2.2.1.2 x2.2.1.2,int i64 x2.2.2.1,int i64 x2.2.2.2] ∧
x1 x2 H3 k7) ∧
∀(x3:(Option (Nat×Nat)×Nat)×(Option (Nat×Nat)×Nat)×Int×Int) (H4:AH) (k8:Nat),
x1 x3 H4 k8 →
bif decide (x3.2.2.2<x3.2.2.1) then
∃(k9 nO:Nat),
(x3.2.1.1=some (k9,nO)∧(0:Int)≤x3.2.2.2∧x3.2.2.2<(↑x3.2.1.2:Int)) ∧
∃(n2 n3 n4 n5:Int),
(X none).bP H4 k9 (nO+x3.2.2.2.toNat*4) 4=some [int i64 n2,int i64 n3,int i64 n4,int i64 n5] ∧
[int i64 n2,int i64 n3,int i64 n4,int i64 n5].length=4 ∧
∃(H5:AH),
(X none).wr
((X none).al H4
(cells [int i64 0,int i64 0,int i64 0,int i64 0] 41
{ whole:=true }))
((X none).n H4) 0 [int i64 n2,int i64 n3,int i64 n4,int i64 n5] =
some H5 ∧
∃(n6:Int),
(X none).aM H5 ((X none).n H4) 0=some (int i64 n6) ∧
∃(x4:((Option (Nat×Nat)×Nat)×(Option (Nat×Nat)×Nat)×Int×Int)×Nat×Int→AH→Nat→Prop),
(∃(x5:((Option (Nat×Nat)×Nat)×(Option (Nat×Nat)×Nat)×Int×Int)×Nat×Int),
∃(gQ:Nat),
[slice x3.1.1 x3.1.2 x3.1.2,slice x3.2.1.1 x3.2.1.2 x3.2.1.2,int i64 x3.2.2.1,
int i64 x3.2.2.2,ptr (some ((X none).n H4,0)),int i64 n6] =
[slice x5.1.1.1 x5.1.1.2 x5.1.1.2,slice x5.1.2.1.1 x5.1.2.1.2 x5.1.2.1.2,
int i64 x5.1.2.2.1,int i64 x5.1.2.2.2,ptr (some (x5.2.1,0)),
int i64 x5.2.2] ∧
x4 x5 H5 gQ) ∧
∀(x6:((Option (Nat×Nat)×Nat)×(Option (Nat×Nat)×Nat)×Int×Int)×Nat×Int) (H6:AH) (mF:Nat),
x4 x6 H6 mF →
∃(n7:Int),
(X none).aM H6 x6.2.1 1=some (int i64 n7) ∧
bif decide (x6.2.2<n7) then
∃(nN kQ:Nat),
(x6.1.1.1=some (nN,kQ)∧(0:Int)≤x6.2.2∧x6.2.2<(↑x6.1.1.2:Int)) ∧
∃(n8 n9 fO iL:Int),
(X none).bP H6 x6.2.1 0 4 =
some [int i64 n8,int i64 n9,int i64 fO,int i64 iL] ∧
(X none).call 87
[ptr (some (nN,kQ+x6.2.2.toNat*5)),
agg [int i64 n8,int i64 n9,int i64 fO,int i64 iL]]
H6 fun (_v3:AV) (H7:AH) =>
∃(x7:((Option (Nat×Nat)×Nat)×(Option (Nat×Nat)×Nat)×Int×Int)×Nat×Int),
∃(nh:Nat),
nh<mF ∧
[slice x6.1.1.1 x6.1.1.2 x6.1.1.2,slice x6.1.2.1.1 x6.1.2.1.2 x6.1.2.1.2,
int i64 x6.1.2.2.1,int i64 x6.1.2.2.2,ptr (some (x6.2.1,0)),
int i64 ((X none).wrap i64 (x6.2.2+(1:Int)))] =
[slice x7.1.1.1 x7.1.1.2 x7.1.1.2,
slice x7.1.2.1.1 x7.1.2.1.2 x7.1.2.1.2,int i64 x7.1.2.2.1,
int i64 x7.1.2.2.2,ptr (some (x7.2.1,0)),int i64 x7.2.2] ∧
x4 x7 H7 nh
else
∃(x8:(Option (Nat×Nat)×Nat)×(Option (Nat×Nat)×Nat)×Int×Int),
∃(rJ:Nat),
rJ<k8 ∧
[slice x6.1.1.1 x6.1.1.2 x6.1.1.2,slice x6.1.2.1.1 x6.1.2.1.2 x6.1.2.1.2,
int i64 x6.1.2.2.1,int i64 ((X none).wrap i64 (x6.1.2.2.2+(1:Int)))] =
[slice x8.1.1 x8.1.2 x8.1.2,slice x8.2.1.1 x8.2.1.2 x8.2.1.2,int i64 x8.2.2.1,
int i64 x8.2.2.2] ∧
x1 x8 H6 rJ
else Q (slice x3.1.1 x3.1.2 x3.1.2) H4):=by kernel_rfl
theorem Eu (X:aN) (s:List UInt8) (q:Option (Nat×Nat)) (k c:Nat) (H:AH) (Q:AV→AH→Prop):(gP X Tryd.prog [] 37 [.agg [.str s,.slice q k c]] H Q) =
(true=true ∧
∃(s1:List UInt8),
∃(q1:Option (Nat×Nat)),
∃(k1 k2:Nat),
X.bP (X.al H (cells [str s,slice q k c] 26 { whole:=true })) (X.n H) 0 2=some [str s1,slice q1 k1 k2] ∧
X.call 36 [agg [str s1,slice q1 k1 k2]] (X.al H (cells [str s,slice q k c] 26 { whole:=true })) fun (v1:AV) (H1:AH) =>
∃(n1:Int),
v1=int i64 n1 ∧
bif n1 != (0:Int) then Q (AV.func (Fn.func 67) [] []) H1
else
∃(s2:List UInt8),
∃(q2:Option (Nat×Nat)),
∃(k3 k4:Nat),
X.bP H1 (X.n H) 0 2=some [str s2,slice q2 k3 k4] ∧
X.call 68 [agg [str s2,slice q2 k3 k4]] H1 fun (v2:AV) (H2:AH) =>
∃(q3:Option (Nat×Nat)),
∃(k5 k6:Nat),
v2=slice q3 k5 k6 ∧
[slice q3 k5 k6].length=1 ∧
∃(H3:AH),
X.wr (X.al H2 (cells [slice none 0 0] 50 { whole:=true })) (X.n H2) 0 [slice q3 k5 k6]=some H3 ∧
Q (AV.func (Fn.func 69) [] [ptr (some (X.n H,0)),ptr (some (X.n H2,0))]) H3):=by kernel_rfl
theorem BD (X:Option Nat→aN) (It:FuncId→List AV→List AV→(AH→Prop)→List (List AV)→Prop) (b p r:Nat) (H:AH) (Q:AV→AH→Prop) (xs:List (Int×Int×Int×Bool)) (cap:AV→AH→Prop) (I:Nat→List Nat→AH→Prop) (S:dm→List Nat→AH→Prop):(oh X It Tryd.prog [] [⟨3,AV,Int×Int×Int×Bool,77,fun z=>([],[z]),fun x=>[.agg [.int .i64 x.1,.int .i64 x.2.1,.int .i32 x.2.2.1,.bool x.2.2.2]],fun _=>xs,cap,fun _=>I,[.ret],fun _=>S⟩] 69 [.cV b,.ptr (some (p,0)),.ptr (some (r,0))] H Q) =
(true=true ∧
1=1 ∧
∃(H1:AH),
(X none).wr ((X none).al ((X none).al H (cells [AV.cV b] 120 { whole:=true })) (cells [int i64 0] 3 { whole:=true }))
((X none).n ((X none).al H (cells [AV.cV b] 120 { whole:=true }))) 0 [int i64 0] =
some H1 ∧
∃(s1:List UInt8),
(X none).aM H1 p 0=some (str s1) ∧
(X none).call 54 [str s1] H1 fun (v1:AV) (H2:AH) =>
∃(v2:AV),
v1=v2 ∧
∃(v3:AV),
v2=AV.func (Fn.func (nat_lit 77)) [] [v3] ∧
It (nat_lit 77) [] [v3] (fun (H3:AH)=>cap v3 H3)
(List.map (fun (x:Int×Int×Int×Bool)=>[agg [int i64 x.1,int i64 x.2.1,int i32 x.2.2.1,bool x.2.2.2]]) xs) ∧
(sx (fun (k1:Nat) (Vc:List Nat) (H4:AH)=>I k1 Vc H4) (fun (x1:dm) (RB:List Nat) (H5:AH)=>S x1 RB H5) fun (H6:AH)=>cap v3 H6) ∧
(∀(x2:Int×Int×Int×Bool),[agg [int i64 x2.1,int i64 x2.2.1,int i32 x2.2.2.1,bool x2.2.2.2]].length=1) ∧
(∀(H7:AH),yK H2 H7→I 0 [(X none).n H2+1,(X none).n H2] H7) ∧
(∀(k2:Nat) (AJ:List Nat) (H8:AH) (x3:Int×Int×Int×Bool),
xs[k2]? = some x3 →
I k2 AJ H8 →
Jk AJ H8 →
Vr ((X none).n H2+1) AJ →
[int i64 x3.1,int i64 x3.2.1,int i32 x3.2.2.1,bool x3.2.2.2].length=4 ∧
∃(H9:AH),
(X (some ((X none).n H2+1))).wr
((X (some ((X none).n H2+1))).al H8
(cells [int i64 0,int i64 0,int i32 (0:Int),bool false] 77 { whole:=true }))
((X (some ((X none).n H2+1))).n H8) 0 [int i64 x3.1,int i64 x3.2.1,int i32 x3.2.2.1,bool x3.2.2.2] =
some H9 ∧
Still AJ H8 H8 H9 ∧
∀(kN:AH),
qv ((X none).n H2+1) H9 kN →
∃(k3:Nat),
(X (some ((X none).n H2+1))).aM kN ((X none).n H) 0=some (AV.cV k3) ∧
∃(n1 n2 n3:Int),
∃(b1:Bool),
(X (some ((X none).n H2+1))).bP kN ((X (some ((X none).n H2+1))).n H8) 0 4 =
some [int i64 n1,int i64 n2,int i32 n3,bool b1] ∧
∃(q1:Option (Nat×Nat)),
∃(k4 k5:Nat),
(X (some ((X none).n H2+1))).aM kN r 0=some (slice q1 k4 k5) ∧
∃(n4:Int),
(X (some ((X none).n H2+1))).aM kN ((X none).n ((X none).al H (cells [AV.cV b] 120 { whole:=true }))) 0 =
some (int i64 n4) ∧
∃(k6 k7:Nat),
(q1=some (k6,k7)∧(0:Int)≤n4∧n4<(↑k4:Int)) ∧
∃(b2 b3 b4 b5:Bool),
∃(n5:Int),
(X (some ((X none).n H2+1))).bP kN k6 (k7+n4.toNat*5) 5 =
some [bool b2,bool b3,bool b4,bool b5,int i64 n5] ∧
(X (some ((X none).n H2+1))).cV k3
[agg [int i64 n1,int i64 n2,int i32 n3,bool b1],
agg [bool b2,bool b3,bool b4,bool b5,int i64 n5]]
kN fun (v4:AV) (oe:AH) =>
∃(b6:Bool),
v4=bool b6 ∧
bif !b6 then Still AJ H8 kN oe∧∀(uS:AH),qv ((X none).n H2+1) oe uS→S dm.ret AJ uS
else
∃(n6:Int),
(X (some ((X none).n H2+1))).aM oe ((X none).n ((X none).al H (cells [AV.cV b] 120 { whole:=true })))
0 =
some (int i64 n6) ∧
[int i64 ((X (some ((X none).n H2+1))).wrap i64 (n6+(1:Int)))].length=1 ∧
∃(mR:AH),
(X (some ((X none).n H2+1))).wr oe
((X none).n ((X none).al H (cells [AV.cV b] 120 { whole:=true }))) 0
[int i64 ((X (some ((X none).n H2+1))).wrap i64 (n6+(1:Int)))] =
some mR ∧
Still AJ H8 kN mR∧∀(uR:AH),qv ((X none).n H2+1) mR uR→I (k2+1) AJ uR) ∧
(∀(Vb:List Nat) (mU vl:AH),
I xs.length Vb mU→qv ((X none).n H2+1) mU vl→GC ((X none).n H2) vl→∃(Bj:AH),(X none).tm [Mk.mark ((X none).n H2)] vl=some Bj∧Q (tuple []) Bj) ∧
∀(cs5:List Nat) (uF MX:AH),
S dm.ret cs5 uF→qv ((X none).n H2+1) uF MX→GC ((X none).n H2) MX→∃(RY:AH),(X none).tm [Mk.mark ((X none).n H2)] MX=some RY∧Q (tuple []) RY):=by kernel_rfl
theorem JX (X:aN) (d r:Int) (H:AH) (Q:AV→AH→Prop):(gP X Tryd.prog [] 38 [.int .i64 d,.int .i32 r] H Q) =
(bif decide (r<(32:Int)) && r != (10:Int) then Q (tuple [str [(32:UInt8)],bool false]) H
else
bif d == (1:Int) then
bif !(r == (60:Int) || r == (62:Int)) then Q (tuple [str [],bool true]) H else Q (tuple [str (cB (X.wrap i32 (X.wrap i32 (r - (32:Int))+(65280:Int)))),bool false]) H
else
bif d == (3:Int) then
bif !(r == (123:Int) || r == (124:Int) || r == (125:Int)) then Q (tuple [str [],bool true]) H
else Q (tuple [str (cB (X.wrap i32 (X.wrap i32 (r - (32:Int))+(65280:Int)))),bool false]) H
else
bif d == (4:Int) then
bif !(r == (123:Int) || r == (92:Int) || r == (125:Int)) then Q (tuple [str [],bool true]) H
else Q (tuple [str (cB (X.wrap i32 (X.wrap i32 (r - (32:Int))+(65280:Int)))),bool false]) H
else Q (tuple [str [],bool true]) H):=by kernel_rfl
theorem HL (X:Option Nat→aN) (It:FuncId→List AV→List AV→(AH→Prop)→List (List AV)→Prop) (q:Option (Nat×Nat)) (k c:Nat) (H:AH) (Q:AV→AH→Prop):(oh X It Tryd.prog [⟨4,(Option (Nat×Nat)×Nat)×Int×Int,[0,3,4,7,8,9],fun x=>[.slice q k c,.slice x.1.1 x.1.2 x.1.2,.int .i64 x.2.1,.slice q k c,.int .i64 k,.int .i64 x.2.2],fun _ _ _=>True⟩,⟨200009,(Option (Nat×Nat)×Nat)×Int×Int,[0,3,4,7,8,9],fun x=>[.slice q k c,.slice x.1.1 x.1.2 x.1.2,.int .i64 x.2.1,.slice q k c,.int .i64 k,.int .i64 x.2.2],fun _ _ _=>True⟩] [] 39 [.slice q k c] H Q) =
(∃(x1:(Option (Nat×Nat)×Nat)×Int×Int→AH→Nat→Prop),
(∃(x2:(Option (Nat×Nat)×Nat)×Int×Int),
∃(k1:Nat),
[slice q k c,slice none (0:Nat) (0:Nat),int i64 0,slice q k c,int i64 (↑k:Int),int i64 0] =
[slice q k c,slice x2.1.1 x2.1.2 x2.1.2,int i64 x2.2.1,slice q k c,int i64 (↑k:Int),int i64 x2.2.2] ∧
x1 x2 H k1) ∧
∀(x3:(Option (Nat×Nat)×Nat)×Int×Int) (H1:AH) (k2:Nat),
x1 x3 H1 k2 →
bif decide (x3.2.2<(↑k:Int)) then
∃(x4:(Option (Nat×Nat)×Nat)×Int×Int→AH→Prop),
(∃(k3 k4:Nat),
(q=some (k3,k4)∧(0:Int)≤x3.2.2∧x3.2.2<(↑k:Int)) ∧
∃(s1:List UInt8),
∃(b1 b2 b3 b4:Bool),
∃(n1:Int),
(X none).bP H1 k3 (k4+x3.2.2.toNat*6) 6=some [str s1,bool b1,bool b2,bool b3,bool b4,int i64 n1] ∧
[str s1,bool b1,bool b2,bool b3,bool b4,int i64 n1].length=6 ∧
∃(H2:AH),
(X none).wr ((X none).al H1 (cells [str [],bool false,bool false,bool false,bool false,int i64 0] 79 { whole:=true })) ((X none).n H1) 0
[str s1,bool b1,bool b2,bool b3,bool b4,int i64 n1] =
some H2 ∧
∃(s2:List UInt8),
(X none).aM H2 ((X none).n H1) 0=some (str s2) ∧
bif s2 == [(10:UInt8)] then
∃(q1:Option (Nat×Nat)),
∃(k5 k6:Nat),
(X none).JS 56 (slice q k c) (some (int i64 x3.2.1)) (some (int i64 ((X none).wrap i64 (x3.2.2+(1:Int)))))
(some (int i64 ((X none).wrap i64 (x3.2.2+(1:Int))))) H2 =
some (slice q1 k5 k6) ∧
(1≤16777216∧1=1∧0<1∧true=true∧true=true) ∧
∃(q2:Option (Nat×Nat)),
∃(k7 k8:Nat),
∃(H3:AH),
(X none).app 82 82 (slice x3.1.1 x3.1.2 x3.1.2) (slice (some ((X none).n H2,0)) 1 1)
((X none).al H2 (cells [slice q1 k5 k6] 56 { whole:=true })) =
some (slice q2 k7 k8,H3) ∧
∃(x5:(Option (Nat×Nat)×Nat)×Int×Int),
∃(_k9:Nat),
True ∧
[slice q k c,slice q2 k7 k8,int i64 ((X none).wrap i64 (x3.2.2+(1:Int))),slice q k c,int i64 (↑k:Int),
int i64 x3.2.2] =
[slice q k c,slice x5.1.1 x5.1.2 x5.1.2,int i64 x5.2.1,slice q k c,int i64 (↑k:Int),
int i64 x5.2.2] ∧
x4 x5 H3
else
∃(x6:(Option (Nat×Nat)×Nat)×Int×Int),
∃(_k10:Nat),
True ∧
[slice q k c,slice x3.1.1 x3.1.2 x3.1.2,int i64 x3.2.1,slice q k c,int i64 (↑k:Int),int i64 x3.2.2] =
[slice q k c,slice x6.1.1 x6.1.2 x6.1.2,int i64 x6.2.1,slice q k c,int i64 (↑k:Int),int i64 x6.2.2] ∧
x4 x6 H2) ∧
∀(x7:(Option (Nat×Nat)×Nat)×Int×Int) (H4:AH),
x4 x7 H4 →
∃(x8:(Option (Nat×Nat)×Nat)×Int×Int),
∃(gQ:Nat),
gQ<k2 ∧
[slice q k c,slice x7.1.1 x7.1.2 x7.1.2,int i64 x7.2.1,slice q k c,int i64 (↑k:Int),int i64 ((X none).wrap i64 (x7.2.2+(1:Int)))] =
[slice q k c,slice x8.1.1 x8.1.2 x8.1.2,int i64 x8.2.1,slice q k c,int i64 (↑k:Int),int i64 x8.2.2] ∧
x1 x8 H4 gQ
else
∃(q3:Option (Nat×Nat)),
∃(mF nN:Nat),
(X none).JS 56 (slice q k c) (some (int i64 x3.2.1)) none none H1=some (slice q3 mF nN) ∧
(1≤16777216∧1=1∧0<1∧true=true∧true=true) ∧
∃(q4:Option (Nat×Nat)),
∃(kQ nh:Nat),
∃(H5:AH),
(X none).app 82 82 (slice x3.1.1 x3.1.2 x3.1.2) (slice (some ((X none).n H1,0)) 1 1)
((X none).al H1 (cells [slice q3 mF nN] 56 { whole:=true })) =
some (slice q4 kQ nh,H5) ∧
Q (slice q4 kQ nh) H5):=by kernel_rfl
theorem OA (X:Option Nat→aN) (It:FuncId→List AV→List AV→(AH→Prop)→List (List AV)→Prop) (q:Option (Nat×Nat)) (k c:Nat) (H:AH) (Q:AV→AH→Prop):(oh X It Tryd.prog [⟨5,Nat×Nat×(Option (Nat×Nat)×Nat×Nat)×Int×Int,[2,3,15,16,17],fun x=>[.ptr (some (x.1,0)),.ptr (some (x.2.1,0)),.slice x.2.2.1.1 x.2.2.1.2.1 x.2.2.1.2.2,.int .i64 x.2.2.2.1,.int .i64 x.2.2.2.2],fun _ _ _=>True⟩,⟨200013,Nat×Nat×(Option (Nat×Nat)×Nat×Nat)×Int×Int,[2,3,15,16,17],fun x=>[.ptr (some (x.1,0)),.ptr (some (x.2.1,0)),.slice x.2.2.1.1 x.2.2.1.2.1 x.2.2.1.2.2,.int .i64 x.2.2.2.1,.int .i64 x.2.2.2.2],fun _ _ _=>True⟩] [] 40 [.slice q k c] H Q) =
(bif (↑k:Int) == (0:Int) then
[bool false,bool false,bool false,bool false,int i64 0].length=5 ∧
∃(H1:AH),
(X none).wr ((X none).al H (cells [bool false,bool false,bool false,bool false,int i64 0] 53 { whole:=true })) ((X none).n H) 0
[bool false,bool false,bool false,bool false,int i64 0] =
some H1 ∧
∃(b1 b2 b3 b4:Bool),
∃(n1:Int),
(X none).bP H1 ((X none).n H) 0 5=some [bool b1,bool b2,bool b3,bool b4,int i64 n1]∧Q (agg [bool b1,bool b2,bool b3,bool b4,int i64 n1]) H1
else
∃(k1 k2:Nat),
(q=some (k1,k2)∧(0:Int)≤(0:Int)∧(0:Int)<(↑k:Int)) ∧
∃(b5 b6 b7 b8:Bool),
∃(n2:Int),
(X none).bP ((X none).al H (cells [bool false,bool false,bool false,bool false,int i64 0] 53 { whole:=true })) k1 (k2+0+1) 5 =
some [bool b5,bool b6,bool b7,bool b8,int i64 n2] ∧
[bool b5,bool b6,bool b7,bool b8,int i64 n2].length=5 ∧
∃(H2:AH),
(X none).wr
((X none).al ((X none).al H (cells [bool false,bool false,bool false,bool false,int i64 0] 53 { whole:=true }))
(cells [bool false,bool false,bool false,bool false,int i64 0] 53 { whole:=true }))
((X none).n ((X none).al H (cells [bool false,bool false,bool false,bool false,int i64 0] 53 { whole:=true }))) 0
[bool b5,bool b6,bool b7,bool b8,int i64 n2] =
some H2 ∧
∃(q1:Option (Nat×Nat)),
∃(k3 k4:Nat),
(X none).JS 56 (slice q k c) (some (int i64 1)) none none H2=some (slice q1 k3 k4) ∧
∃(x1:Nat×Nat×(Option (Nat×Nat)×Nat×Nat)×Int×Int→AH→Nat→Prop),
(∃(x2:Nat×Nat×(Option (Nat×Nat)×Nat×Nat)×Int×Int),
∃(k5:Nat),
[ptr (some ((X none).n H,0)),
ptr (some ((X none).n ((X none).al H (cells [bool false,bool false,bool false,bool false,int i64 0] 53 { whole:=true })),0)),
slice q1 k3 k4,int i64 (↑k3:Int),int i64 0] =
[ptr (some (x2.1,0)),ptr (some (x2.2.1,0)),slice x2.2.2.1.1 x2.2.2.1.2.1 x2.2.2.1.2.2,int i64 x2.2.2.2.1,
int i64 x2.2.2.2.2] ∧
x1 x2 H2 k5) ∧
∀(x3:Nat×Nat×(Option (Nat×Nat)×Nat×Nat)×Int×Int) (H3:AH) (k6:Nat),
x1 x3 H3 k6 →
bif decide (x3.2.2.2.2<x3.2.2.2.1) then
∃(x4:Nat×Nat×(Option (Nat×Nat)×Nat×Nat)×Int×Int→AH→Prop),
(∃(k7 k8:Nat),
(x3.2.2.1.1=some (k7,k8)∧(0:Int)≤x3.2.2.2.2∧x3.2.2.2.2<(↑x3.2.2.1.2.1:Int)) ∧
∃(s1:List UInt8),
∃(b9 yV CW Gx:Bool),
∃(n3:Int),
(X none).bP H3 k7 (k8+x3.2.2.2.2.toNat*6) 6=some [str s1,bool b9,bool yV,bool CW,bool Gx,int i64 n3] ∧
[str s1,bool b9,bool yV,bool CW,bool Gx,int i64 n3].length=6 ∧
∃(H4:AH),
(X none).wr
((X none).al H3 (cells [str [],bool false,bool false,bool false,bool false,int i64 0] 79 { whole:=true }))
((X none).n H3) 0 [str s1,bool b9,bool yV,bool CW,bool Gx,int i64 n3] =
some H4 ∧
∃(Gw:Bool),
(X none).aM H4 x3.2.1 0=some (bool Gw) ∧
∃(LI:Bool),
(X none).aM H4 ((X none).n H3) 1=some (bool LI) ∧
[bool (Gw && LI)].length=1 ∧
∃(H5:AH),
(X none).wr H4 x3.2.1 0 [bool (Gw && LI)]=some H5 ∧
∃(JI:Bool),
(X none).aM H5 x3.2.1 1=some (bool JI) ∧
∃(JH:Bool),
(X none).aM H5 ((X none).n H3) 2=some (bool JH) ∧
[bool (JI && JH)].length=1 ∧
∃(H6:AH),
(X none).wr H5 x3.2.1 1 [bool (JI && JH)]=some H6 ∧
∃(JG:Bool),
(X none).aM H6 x3.2.1 2=some (bool JG) ∧
∃(JF:Bool),
(X none).aM H6 ((X none).n H3) 3=some (bool JF) ∧
[bool (JG && JF)].length=1 ∧
∃(H7:AH),
(X none).wr H6 x3.2.1 2 [bool (JG && JF)]=some H7 ∧
∃(JE:Bool),
(X none).aM H7 x3.2.1 3=some (bool JE) ∧
∃(JD:Bool),
(X none).aM H7 ((X none).n H3) 4=some (bool JD) ∧
[bool (JE && JD)].length=1 ∧
∃(H8:AH),
(X none).wr H7 x3.2.1 3 [bool (JE && JD)]=some H8 ∧
∃(n4:Int),
(X none).aM H8 x3.2.1 4=some (int i64 n4) ∧
∃(n5:Int),
(X none).aM H8 ((X none).n H3) 5=some (int i64 n5) ∧
bif n4 != n5 then
1=1 ∧
∃(H9:AH),
(X none).wr H8 x3.2.1 4 [int i64 0]=some H9 ∧
∃(x5:Nat×Nat×(Option (Nat×Nat)×Nat×Nat)×Int×Int),
∃(_k9:Nat),
True ∧
[ptr (some (x3.1,0)),ptr (some (x3.2.1,0)),
slice x3.2.2.1.1 x3.2.2.1.2.1 x3.2.2.1.2.2,
int i64 x3.2.2.2.1,int i64 x3.2.2.2.2] =
[ptr (some (x5.1,0)),ptr (some (x5.2.1,0)),
slice x5.2.2.1.1 x5.2.2.1.2.1 x5.2.2.1.2.2,
int i64 x5.2.2.2.1,int i64 x5.2.2.2.2] ∧
x4 x5 H9
else
∃(x6:Nat×Nat×(Option (Nat×Nat)×Nat×Nat)×Int×Int),
∃(_k10:Nat),
True ∧
[ptr (some (x3.1,0)),ptr (some (x3.2.1,0)),
slice x3.2.2.1.1 x3.2.2.1.2.1 x3.2.2.1.2.2,
int i64 x3.2.2.2.1,int i64 x3.2.2.2.2] =
[ptr (some (x6.1,0)),ptr (some (x6.2.1,0)),
slice x6.2.2.1.1 x6.2.2.1.2.1 x6.2.2.1.2.2,
int i64 x6.2.2.2.1,int i64 x6.2.2.2.2] ∧
x4 x6 H8) ∧
∀(x7:Nat×Nat×(Option (Nat×Nat)×Nat×Nat)×Int×Int) (kN:AH),
x4 x7 kN →
∃(x8:Nat×Nat×(Option (Nat×Nat)×Nat×Nat)×Int×Int),
∃(gQ:Nat),
gQ<k6 ∧
[ptr (some (x7.1,0)),ptr (some (x7.2.1,0)),slice x7.2.2.1.1 x7.2.2.1.2.1 x7.2.2.1.2.2,
int i64 x7.2.2.2.1,int i64 ((X none).wrap i64 (x7.2.2.2.2+(1:Int)))] =
[ptr (some (x8.1,0)),ptr (some (x8.2.1,0)),slice x8.2.2.1.1 x8.2.2.1.2.1 x8.2.2.1.2.2,
int i64 x8.2.2.2.1,int i64 x8.2.2.2.2] ∧
x1 x8 kN gQ
else
∃(JC JB JA Jz:Bool),
∃(n6:Int),
(X none).bP H3 x3.2.1 0 5=some [bool JC,bool JB,bool JA,bool Jz,int i64 n6] ∧
[bool JC,bool JB,bool JA,bool Jz,int i64 n6].length=5 ∧
∃(oe:AH),
(X none).wr H3 x3.1 0 [bool JC,bool JB,bool JA,bool Jz,int i64 n6]=some oe ∧
∃(Pb Pa O9 RJ:Bool),
∃(n7:Int),
(X none).bP oe x3.1 0 5=some [bool Pb,bool Pa,bool O9,bool RJ,int i64 n7] ∧
Q (agg [bool Pb,bool Pa,bool O9,bool RJ,int i64 n7]) oe):=by kernel_rfl
theorem Kx (X:Option Nat→aN) (It:FuncId→List AV→List AV→(AH→Prop)→List (List AV)→Prop) (d:Int) (s:List UInt8) (q:Option (Nat×Nat)) (k c:Nat) (bl:Bool) (H:AH) (Q:AV→AH→Prop) (xs:List ((Int×Int×Int×Bool)×(Bool×Bool×Bool×Bool×Int))) (cap:AV×AV×Nat×AH→AH→Prop) (I:AV×AV×Nat×AH→Nat→List Nat→AH→Prop) (S:AV×AV×Nat×AH→dm→List Nat→AH→Prop):(oh X It Tryd.prog [⟨200016,Nat×Nat×Nat×Nat×Nat,[5,8,11,12,15],fun x=>[.ptr (some (x.1,0)),.ptr (some (x.2.1,0)),.ptr (some (x.2.2.1,0)),.ptr (some (x.2.2.2.1,0)),.ptr (some (x.2.2.2.2,0))],fun _ _ _=>True⟩,⟨200023,Nat×Nat×Nat×Nat×Int×Nat,[3,6,7,8,9,11],fun x=>[.ptr (some (x.1,0)),.ptr (some (x.2.1,0)),.ptr (some (x.2.2.1,0)),.ptr (some (x.2.2.2.1,0)),.int .i64 x.2.2.2.2.1,.ptr (some (x.2.2.2.2.2,0))],fun _ _ _=>True⟩,⟨24,(Nat×Nat×Nat×Nat×Int×Nat)×(Option (Nat×Nat)×Nat)×Int×Int,[3,6,7,8,9,11,117,118,119],fun x=>[.ptr (some (x.1.1,0)),.ptr (some (x.1.2.1,0)),.ptr (some (x.1.2.2.1,0)),.ptr (some (x.1.2.2.2.1,0)),.int .i64 x.1.2.2.2.2.1,.ptr (some (x.1.2.2.2.2.2,0)),.slice x.2.1.1 x.2.1.2 x.2.1.2,.int .i64 x.2.2.1,.int .i64 x.2.2.2],fun _ _ _=>True⟩,⟨28,((Nat×Nat×Nat×Nat×Int×Nat)×(Option (Nat×Nat)×Nat)×Int×Int)×(Option (Nat×Nat)×Nat×Nat)×Nat×Int×Int,[3,6,7,8,9,11,117,118,119,19,20,126,127],fun x=>[.ptr (some (x.1.1.1,0)),.ptr (some (x.1.1.2.1,0)),.ptr (some (x.1.1.2.2.1,0)),.ptr (some (x.1.1.2.2.2.1,0)),.int .i64 x.1.1.2.2.2.2.1,.ptr (some (x.1.1.2.2.2.2.2,0)),.slice x.1.2.1.1 x.1.2.1.2 x.1.2.1.2,.int .i64 x.1.2.2.1,.int .i64 x.1.2.2.2,.slice x.2.1.1 x.2.1.2.1 x.2.1.2.2,.ptr (some (x.2.2.1,0)),.int .i64 x.2.2.2.1,.int .i64 x.2.2.2.2],fun _ _ _=>True⟩,⟨200036,(((Nat×Nat×Nat×Nat×Int×Nat)×(Option (Nat×Nat)×Nat)×Int×Int)×(Option (Nat×Nat)×Nat×Nat)×Nat×Int×Int)×Int×Nat,[3,6,7,8,9,11,117,118,119,19,20,126,127,21,22],fun x=>[.ptr (some (x.1.1.1.1,0)),.ptr (some (x.1.1.1.2.1,0)),.ptr (some (x.1.1.1.2.2.1,0)),.ptr (some (x.1.1.1.2.2.2.1,0)),.int .i64 x.1.1.1.2.2.2.2.1,.ptr (some (x.1.1.1.2.2.2.2.2,0)),.slice x.1.1.2.1.1 x.1.1.2.1.2 x.1.1.2.1.2,.int .i64 x.1.1.2.2.1,.int .i64 x.1.1.2.2.2,.slice x.1.2.1.1 x.1.2.1.2.1 x.1.2.1.2.2,.ptr (some (x.1.2.2.1,0)),.int .i64 x.1.2.2.2.1,.int .i64 x.1.2.2.2.2,.int .i64 x.2.1,.ptr (some (x.2.2,0))],fun _ _ _=>True⟩,⟨200039,((Nat×Nat×Nat×Nat×Int×Nat)×(Option (Nat×Nat)×Nat)×Int×Int)×(Option (Nat×Nat)×Nat×Nat)×Nat×Int×Int,[3,6,7,8,9,11,117,118,119,19,20,126,127],fun x=>[.ptr (some (x.1.1.1,0)),.ptr (some (x.1.1.2.1,0)),.ptr (some (x.1.1.2.2.1,0)),.ptr (some (x.1.1.2.2.2.1,0)),.int .i64 x.1.1.2.2.2.2.1,.ptr (some (x.1.1.2.2.2.2.2,0)),.slice x.1.2.1.1 x.1.2.1.2 x.1.2.1.2,.int .i64 x.1.2.2.1,.int .i64 x.1.2.2.2,.slice x.2.1.1 x.2.1.2.1 x.2.1.2.2,.ptr (some (x.2.2.1,0)),.int .i64 x.2.2.2.1,.int .i64 x.2.2.2.2],fun _ _ _=>True⟩] [⟨9,AV×AV×Nat×AH,(Int×Int×Int×Bool)×(Bool×Bool×Bool×Bool×Int),69,fun z=>([],[z.1,z.2.1]),fun x=>[.agg [.int .i64 x.1.1,.int .i64 x.1.2.1,.int .i32 x.1.2.2.1,.bool x.1.2.2.2],.agg [.bool x.2.1,.bool x.2.2.1,.bool x.2.2.2.1,.bool x.2.2.2.2.1,.int .i64 x.2.2.2.2.2]],fun _=>xs,cap,I,[],S⟩] 20 [.int .i64 d,.agg [.str s,.slice q k c],.bool bl] H Q) =
(true=true ∧
true=true ∧
true=true ∧
∃(n1:Int),
(X none).aM
((X none).al
((X none).al
((X none).al
((X none).al ((X none).al ((X none).al H (cells [int i64 d] 3 { whole:=true })) (cells [str s,slice q k c] 26 { whole:=true }))
(cells [bool bl] 4 { whole:=true }))
(cells [str [],slice none 0 0] 26 { whole:=true }))
(cells [int i64 0] 3 { whole:=true }))
(cells [int i64 0] 3 { whole:=true }))
((X none).n H) 0 =
some (int i64 n1) ∧
∃(n2:Int),
(X none).aM
((X none).al
((X none).al
((X none).al
((X none).al ((X none).al ((X none).al H (cells [int i64 d] 3 { whole:=true })) (cells [str s,slice q k c] 26 { whole:=true }))
(cells [bool bl] 4 { whole:=true }))
(cells [str [],slice none 0 0] 26 { whole:=true }))
(cells [int i64 0] 3 { whole:=true }))
(cells [int i64 0] 3 { whole:=true }))
((X none).n H) 0 =
some (int i64 n2) ∧
bif decide (n1<(1:Int)) || decide (n2 > (4:Int)) then
∃(s1:List UInt8),
∃(q1:Option (Nat×Nat)),
∃(k1 k2:Nat),
(X none).bP
((X none).al
((X none).al
((X none).al
((X none).al ((X none).al ((X none).al H (cells [int i64 d] 3 { whole:=true })) (cells [str s,slice q k c] 26 { whole:=true }))
(cells [bool bl] 4 { whole:=true }))
(cells [str [],slice none 0 0] 26 { whole:=true }))
(cells [int i64 0] 3 { whole:=true }))
(cells [int i64 0] 3 { whole:=true }))
((X none).n
((X none).al ((X none).al ((X none).al H (cells [int i64 d] 3 { whole:=true })) (cells [str s,slice q k c] 26 { whole:=true }))
(cells [bool bl] 4 { whole:=true })))
0 2 =
some [str s1,slice q1 k1 k2] ∧
[str s1,slice q1 k1 k2].length=2 ∧
∃(H1:AH),
(X none).wr
((X none).al
((X none).al
((X none).al
((X none).al ((X none).al ((X none).al H (cells [int i64 d] 3 { whole:=true })) (cells [str s,slice q k c] 26 { whole:=true }))
(cells [bool bl] 4 { whole:=true }))
(cells [str [],slice none 0 0] 26 { whole:=true }))
(cells [int i64 0] 3 { whole:=true }))
(cells [int i64 0] 3 { whole:=true }))
((X none).n
((X none).al ((X none).al ((X none).al H (cells [int i64 d] 3 { whole:=true })) (cells [str s,slice q k c] 26 { whole:=true }))
(cells [bool bl] 4 { whole:=true })))
0 [str s1,slice q1 k1 k2] =
some H1 ∧
1=1 ∧
∃(H2:AH),
(X none).wr H1
((X none).n
((X none).al
((X none).al ((X none).al ((X none).al H (cells [int i64 d] 3 { whole:=true })) (cells [str s,slice q k c] 26 { whole:=true }))
(cells [bool bl] 4 { whole:=true }))
(cells [str [],slice none 0 0] 26 { whole:=true })))
0 [int i64 0] =
some H2 ∧
1=1 ∧
∃(H3:AH),
(X none).wr H2
((X none).n
((X none).al
((X none).al
((X none).al ((X none).al ((X none).al H (cells [int i64 d] 3 { whole:=true })) (cells [str s,slice q k c] 26 { whole:=true }))
(cells [bool bl] 4 { whole:=true }))
(cells [str [],slice none 0 0] 26 { whole:=true }))
(cells [int i64 0] 3 { whole:=true })))
0 [int i64 0] =
some H3 ∧
∃(s2:List UInt8),
∃(q2:Option (Nat×Nat)),
∃(k3 k4:Nat),
(X none).bP H3
((X none).n
((X none).al ((X none).al ((X none).al H (cells [int i64 d] 3 { whole:=true })) (cells [str s,slice q k c] 26 { whole:=true }))
(cells [bool bl] 4 { whole:=true })))
0 2 =
some [str s2,slice q2 k3 k4] ∧
∃(n3:Int),
(X none).aM H3
((X none).n
((X none).al
((X none).al
((X none).al ((X none).al H (cells [int i64 d] 3 { whole:=true })) (cells [str s,slice q k c] 26 { whole:=true }))
(cells [bool bl] 4 { whole:=true }))
(cells [str [],slice none 0 0] 26 { whole:=true })))
0 =
some (int i64 n3) ∧
∃(n4:Int),
(X none).aM H3
((X none).n
((X none).al
((X none).al
((X none).al
((X none).al ((X none).al H (cells [int i64 d] 3 { whole:=true })) (cells [str s,slice q k c] 26 { whole:=true }))
(cells [bool bl] 4 { whole:=true }))
(cells [str [],slice none 0 0] 26 { whole:=true }))
(cells [int i64 0] 3 { whole:=true })))
0 =
some (int i64 n4) ∧
Q (tuple [agg [str s2,slice q2 k3 k4],int i64 n3,int i64 n4,int i64 0,int i64 5]) H3
else
∃(s3:List UInt8),
∃(q3:Option (Nat×Nat)),
∃(k5 k6:Nat),
(X none).bP
((X none).al
((X none).al
((X none).al
((X none).al ((X none).al ((X none).al H (cells [int i64 d] 3 { whole:=true })) (cells [str s,slice q k c] 26 { whole:=true }))
(cells [bool bl] 4 { whole:=true }))
(cells [str [],slice none 0 0] 26 { whole:=true }))
(cells [int i64 0] 3 { whole:=true }))
(cells [int i64 0] 3 { whole:=true }))
((X none).n ((X none).al H (cells [int i64 d] 3 { whole:=true }))) 0 2 =
some [str s3,slice q3 k5 k6] ∧
(X none).call 36 [agg [str s3,slice q3 k5 k6]]
((X none).al
((X none).al
((X none).al
((X none).al ((X none).al ((X none).al H (cells [int i64 d] 3 { whole:=true })) (cells [str s,slice q k c] 26 { whole:=true }))
(cells [bool bl] 4 { whole:=true }))
(cells [str [],slice none 0 0] 26 { whole:=true }))
(cells [int i64 0] 3 { whole:=true }))
(cells [int i64 0] 3 { whole:=true }))
fun (v1:AV) (H4:AH) =>
∃(n5:Int),
v1=int i64 n5 ∧
bif n5 != (0:Int) then
∃(s4:List UInt8),
∃(q4:Option (Nat×Nat)),
∃(k7 k8:Nat),
(X none).bP H4
((X none).n
((X none).al ((X none).al ((X none).al H (cells [int i64 d] 3 { whole:=true })) (cells [str s,slice q k c] 26 { whole:=true }))
(cells [bool bl] 4 { whole:=true })))
0 2 =
some [str s4,slice q4 k7 k8] ∧
[str s4,slice q4 k7 k8].length=2 ∧
∃(H5:AH),
(X none).wr H4
((X none).n
((X none).al ((X none).al ((X none).al H (cells [int i64 d] 3 { whole:=true })) (cells [str s,slice q k c] 26 { whole:=true }))
(cells [bool bl] 4 { whole:=true })))
0 [str s4,slice q4 k7 k8] =
some H5 ∧
1=1 ∧
∃(H6:AH),
(X none).wr H5
((X none).n
((X none).al
((X none).al ((X none).al ((X none).al H (cells [int i64 d] 3 { whole:=true })) (cells [str s,slice q k c] 26 { whole:=true }))
(cells [bool bl] 4 { whole:=true }))
(cells [str [],slice none 0 0] 26 { whole:=true })))
0 [int i64 0] =
some H6 ∧
1=1 ∧
∃(H7:AH),
(X none).wr H6
((X none).n
((X none).al
((X none).al
((X none).al
((X none).al ((X none).al H (cells [int i64 d] 3 { whole:=true })) (cells [str s,slice q k c] 26 { whole:=true }))
(cells [bool bl] 4 { whole:=true }))
(cells [str [],slice none 0 0] 26 { whole:=true }))
(cells [int i64 0] 3 { whole:=true })))
0 [int i64 0] =
some H7 ∧
∃(s5:List UInt8),
∃(q5:Option (Nat×Nat)),
∃(k9 nO:Nat),
(X none).bP H7
((X none).n
((X none).al
((X none).al ((X none).al H (cells [int i64 d] 3 { whole:=true }))
(cells [str s,slice q k c] 26 { whole:=true }))
(cells [bool bl] 4 { whole:=true })))
0 2 =
some [str s5,slice q5 k9 nO] ∧
∃(n6:Int),
(X none).aM H7
((X none).n
((X none).al
((X none).al
((X none).al ((X none).al H (cells [int i64 d] 3 { whole:=true }))
(cells [str s,slice q k c] 26 { whole:=true }))
(cells [bool bl] 4 { whole:=true }))
(cells [str [],slice none 0 0] 26 { whole:=true })))
0 =
some (int i64 n6) ∧
∃(n7:Int),
(X none).aM H7
((X none).n
((X none).al
((X none).al
((X none).al
((X none).al ((X none).al H (cells [int i64 d] 3 { whole:=true }))
(cells [str s,slice q k c] 26 { whole:=true }))
(cells [bool bl] 4 { whole:=true }))
(cells [str [],slice none 0 0] 26 { whole:=true }))
(cells [int i64 0] 3 { whole:=true })))
0 =
some (int i64 n7) ∧
Q (tuple [agg [str s5,slice q5 k9 nO],int i64 n6,int i64 n7,int i64 0,int i64 n5]) H7
else
1=1 ∧
∃(H8:AH),
(X none).wr ((X none).al ((X none).al H4 (cells [slice none 0 0] 56 { whole:=true })) (cells [int i64 0] 3 { whole:=true }))
((X none).n ((X none).al H4 (cells [slice none 0 0] 56 { whole:=true }))) 0 [int i64 0] =
some H8 ∧
∃(s6:List UInt8),
∃(q6:Option (Nat×Nat)),
∃(gQ mF:Nat),
(X none).bP H8 ((X none).n ((X none).al H (cells [int i64 d] 3 { whole:=true }))) 0 2=some [str s6,slice q6 gQ mF] ∧
(X none).call 37 [agg [str s6,slice q6 gQ mF]] H8 fun (v2:AV) (H9:AH) =>
∃(v3:AV),
v2=v3 ∧
∃(x1:AV×AV×Nat×AH),
v3=AV.func (Fn.func (nat_lit 69)) [] [x1.1,x1.2.1] ∧
It (nat_lit 69) [] [x1.1,x1.2.1] (fun (kN:AH)=>cap x1 kN)
(List.map
(fun (x:(Int×Int×Int×Bool)×Bool×Bool×Bool×Bool×Int) =>
[agg [int i64 x.1.1,int i64 x.1.2.1,int i32 x.1.2.2.1,bool x.1.2.2.2],
agg [bool x.2.1,bool x.2.2.1,bool x.2.2.2.1,bool x.2.2.2.2.1,int i64 x.2.2.2.2.2]])
xs) ∧
(sx (fun (nN:Nat) (Vc:List Nat) (oe:AH)=>I x1 nN Vc oe) (fun (x2:dm) (RB:List Nat) (uS:AH)=>S x1 x2 RB uS) fun (mR:AH)=>cap x1 mR) ∧
(∀(x3:(Int×Int×Int×Bool)×Bool×Bool×Bool×Bool×Int),
[agg [int i64 x3.1.1,int i64 x3.1.2.1,int i32 x3.1.2.2.1,bool x3.1.2.2.2],
agg [bool x3.2.1,bool x3.2.2.1,bool x3.2.2.2.1,bool x3.2.2.2.2.1,int i64 x3.2.2.2.2.2]].length =
2) ∧
(∀(uR:AH),yK H9 uR→I x1 0 [(X none).n H9+1,(X none).n H9] uR) ∧
(∀(kQ:Nat) (AJ:List Nat) (mU:AH) (x4:(Int×Int×Int×Bool)×Bool×Bool×Bool×Bool×Int),
xs[kQ]? = some x4 →
I x1 kQ AJ mU →
Jk AJ mU →
Vr ((X none).n H9+1) AJ →
[int i64 x4.1.1,int i64 x4.1.2.1,int i32 x4.1.2.2.1,bool x4.1.2.2.2].length=4 ∧
∃(vl:AH),
(X (some ((X none).n H9+1))).wr
((X (some ((X none).n H9+1))).al mU
(cells [int i64 0,int i64 0,int i32 (0:Int),bool false] 77 { whole:=true }))
((X (some ((X none).n H9+1))).n mU) 0
[int i64 x4.1.1,int i64 x4.1.2.1,int i32 x4.1.2.2.1,bool x4.1.2.2.2] =
some vl ∧
[bool x4.2.1,bool x4.2.2.1,bool x4.2.2.2.1,bool x4.2.2.2.2.1,
int i64 x4.2.2.2.2.2].length =
5 ∧
∃(Bj:AH),
(X (some ((X none).n H9+1))).wr
((X (some ((X none).n H9+1))).al vl
(cells [bool false,bool false,bool false,bool false,int i64 0] 53 { whole:=true }))
((X (some ((X none).n H9+1))).n vl) 0
[bool x4.2.1,bool x4.2.2.1,bool x4.2.2.2.1,bool x4.2.2.2.2.1,
int i64 x4.2.2.2.2.2] =
some Bj ∧
Still AJ mU mU Bj ∧
∀(uF:AH),
qv ((X none).n H9+1) Bj uF →
∃(s7:List UInt8),
(X (some ((X none).n H9+1))).aM uF ((X none).n ((X none).al H (cells [int i64 d] 3 { whole:=true })))
0 =
some (str s7) ∧
∃(n8:Int),
(X (some ((X none).n H9+1))).aM uF ((X (some ((X none).n H9+1))).n mU) 0=some (int i64 n8) ∧
∃(n9:Int),
(X (some ((X none).n H9+1))).aM uF ((X (some ((X none).n H9+1))).n mU) 0 =
some (int i64 n9) ∧
∃(fO:Int),
(X (some ((X none).n H9+1))).aM uF ((X (some ((X none).n H9+1))).n mU) 1 =
some (int i64 fO) ∧
((0:Int)≤n8 ∧
n8≤(X (some ((X none).n H9+1))).wrap i64 (n9+fO) ∧
(X (some ((X none).n H9+(1:Nat)))).wrap i64 (n9+fO)≤(↑s7.length:Int)) ∧
∃(b1 b2 b3 b4:Bool),
∃(iL:Int),
(X (some ((X none).n H9+1))).bP uF ((X (some ((X none).n H9+1))).n vl) 0
5 =
some [bool b1,bool b2,bool b3,bool b4,int i64 iL] ∧
(∃(b5 b6 b7 b8:Bool),
∃(kI:Int),
(X (some ((X none).n H9+1))).bP
((X (some ((X none).n H9+1))).al uF
(cells
[str [],bool false,bool false,bool false,bool false,
int i64 0]
79 { whole:=true }))
((X (some ((X none).n H9+1))).n vl) 0 5 =
some [bool b5,bool b6,bool b7,bool b8,int i64 kI] ∧
agg [bool b5,bool b6,bool b7,bool b8,int i64 kI] =
agg [bool b1,bool b2,bool b3,bool b4,int i64 iL]) ∧
(((0:Int)≤n8 ∧
n8≤(X (some ((X none).n H9+1))).wrap i64 (n9+fO) ∧
(X (some ((X none).n H9+(1:Nat)))).wrap i64 (n9+fO)≤(↑s7.length:Int)) ∧
str
(List.take ((X (some ((X none).n H9+1))).wrap i64 (n9+fO) - n8).toNat
(List.drop n8.toNat s7)) =
str
(List.take ((X (some ((X none).n H9+1))).wrap i64 (n9+fO) - n8).toNat
(List.drop n8.toNat s7))) ∧
(∃(jQ:Int),
(X (some ((X none).n H9+1))).aM
((X (some ((X none).n H9+1))).al uF
(cells
[str [],bool false,bool false,bool false,bool false,
int i64 0]
79 { whole:=true }))
((X (some ((X none).n H9+1))).n mU) 1 =
some (int i64 jQ) ∧
int i64 jQ=int i64 fO) ∧
(∃(kX:Int),
(X (some ((X none).n H9+1))).aM
((X (some ((X none).n H9+1))).al uF
(cells
[str [],bool false,bool false,bool false,bool false,
int i64 0]
79 { whole:=true }))
((X (some ((X none).n H9+1))).n mU) 0 =
some (int i64 kX) ∧
int i64 kX=int i64 n9) ∧
(∃(mS:Int),
(X (some ((X none).n H9+1))).aM
((X (some ((X none).n H9+1))).al uF
(cells
[str [],bool false,bool false,bool false,bool false,
int i64 0]
79 { whole:=true }))
((X (some ((X none).n H9+1))).n mU) 0 =
some (int i64 mS) ∧
int i64 mS=int i64 n8) ∧
(∃(s8:List UInt8),
(X (some ((X none).n H9+1))).aM
((X (some ((X none).n H9+1))).al uF
(cells
[str [],bool false,bool false,bool false,bool false,
int i64 0]
79 { whole:=true }))
((X none).n ((X none).al H (cells [int i64 d] 3 { whole:=true })))
0 =
some (str s8) ∧
str s8=str s7) ∧
[str
(List.take ((X (some ((X none).n H9+1))).wrap i64 (n9+fO) - n8).toNat
(List.drop n8.toNat s7)),
bool b1,bool b2,bool b3,bool b4,int i64 iL].length =
6 ∧
∃(MX:AH),
(X (some ((X none).n H9+1))).wr
((X (some ((X none).n H9+1))).al uF
(cells
[str [],bool false,bool false,bool false,bool false,
int i64 0]
79 { whole:=true }))
((X (some ((X none).n H9+1))).n uF) 0
[str
(List.take
((X (some ((X none).n H9+1))).wrap i64 (n9+fO) - n8).toNat
(List.drop n8.toNat s7)),
bool b1,bool b2,bool b3,bool b4,int i64 iL] =
some MX ∧
∃(x5:Nat×Nat×Nat×Nat×Nat→AH→Prop),
(∃(pW:Int),
(X (some ((X none).n H9+1))).aM MX ((X none).n H) 0 =
some (int i64 pW) ∧
∃(r8:Int),
(X (some ((X none).n H9+1))).aM MX
((X (some ((X none).n H9+1))).n mU) 2 =
some (int i32 r8) ∧
(X (some ((X none).n H9+1))).call 38
[int i64 pW,int i32 r8] MX fun (v4:AV) (RY:AH) =>
∃(s9:List UInt8),
∃(b9:Bool),
v4=tuple [str s9,bool b9] ∧
bif !b9 then
[str s9].length=1 ∧
∃(Vz:AH),
(X (some ((X none).n H9+1))).wr RY
((X (some ((X none).n H9+1))).n uF) 0
[str s9] =
some Vz ∧
∃(uL:Int),
(X (some ((X none).n H9+1))).aM Vz
((X none).n
((X none).al
((X none).al
((X none).al
((X none).al H
(cells [int i64 d] 3
{ whole:=true }))
(cells [str s,slice q k c] 26
{ whole:=true }))
(cells [bool bl] 4
{ whole:=true }))
(cells
[str [],slice none 0 0]
26 { whole:=true })))
0 =
some (int i64 uL) ∧
[int i64
((X (some ((X none).n H9+1))).wrap
i64 (uL+(1:Int)))].length =
1 ∧
∃(XW:AH),
(X (some ((X none).n H9+1))).wr Vz
((X none).n
((X none).al
((X none).al
((X none).al
((X none).al H
(cells [int i64 d]
3 { whole:=true }))
(cells [str s,slice q k c]
26 { whole:=true }))
(cells [bool bl] 4
{ whole:=true }))
(cells
[str [],slice none 0 0]
26 { whole:=true })))
0
[int i64
((X (some ((X none).n H9+1))).wrap
i64 (uL+(1:Int)))] =
some XW ∧
∃(x6:Nat×Nat×Nat×Nat×Nat),
∃(_k15:Nat),
True ∧
[ptr
(some
((X none).n
((X none).al
((X none).al H
(cells
[int i64 d]
3 { whole:=true }))
(cells
[str s,slice q k c]
26 { whole:=true })),
0)),
ptr
(some
((X none).n
((X none).al
((X none).al
((X none).al
((X none).al
((X none).al H
(cells
[int i64 d]
3
{ whole:=true }))
(cells
[str s,slice q k c]
26
{ whole:=true }))
(cells [bool bl]
4
{ whole:=true }))
(cells
[str [],
slice none 0
0]
26 { whole:=true }))
(cells
[int i64 0]
3 { whole:=true })),
0)),
ptr (some ((X none).n H4,0)),
ptr
(some
((X none).n
((X none).al H4
(cells
[slice none 0
0]
56 { whole:=true })),
0)),
ptr
(some
((X
(some
((X none).n H9 +
1))).n
uF,
0))] =
[ptr (some (x6.1,0)),
ptr (some (x6.2.1,0)),
ptr (some (x6.2.2.1,0)),
ptr
(some (x6.2.2.2.1,0)),
ptr
(some (x6.2.2.2.2,0))] ∧
x5 x6 XW
else
∃(x7:Nat×Nat×Nat×Nat×Nat),
∃(_k16:Nat),
True ∧
[ptr
(some
((X none).n
((X none).al
((X none).al H
(cells [int i64 d] 3
{ whole:=true }))
(cells [str s,slice q k c] 26
{ whole:=true })),
0)),
ptr
(some
((X none).n
((X none).al
((X none).al
((X none).al
((X none).al
((X none).al H
(cells [int i64 d]
3 { whole:=true }))
(cells [str s,slice q k c]
26 { whole:=true }))
(cells [bool bl] 4
{ whole:=true }))
(cells
[str [],slice none 0 0]
26 { whole:=true }))
(cells [int i64 0]
3 { whole:=true })),
0)),
ptr (some ((X none).n H4,0)),
ptr
(some
((X none).n
((X none).al H4
(cells [slice none 0 0]
56 { whole:=true })),
0)),
ptr
(some
((X (some ((X none).n H9+1))).n uF,
0))] =
[ptr (some (x7.1,0)),
ptr (some (x7.2.1,0)),
ptr (some (x7.2.2.1,0)),
ptr (some (x7.2.2.2.1,0)),
ptr (some (x7.2.2.2.2,0))] ∧
x5 x7 RY) ∧
∀(x8:Nat×Nat×Nat×Nat×Nat) (F6:AH),
x5 x8 F6 →
∃(OH:List UInt8),
(X (some ((X none).n H9+1))).aM F6 x8.2.2.2.2 0 =
some (str OH) ∧
∃(yV:Bool),
(X (some ((X none).n H9+1))).aM F6 x8.1 0 =
some (bool yV) ∧
∃(q7:Option (Nat×Nat)),
∃(kP oV:Nat),
(X (some ((X none).n H9+1))).aM F6 x8.2.2.1
0 =
some (slice q7 kP oV) ∧
∃(q8:Option (Nat×Nat)),
∃(uN Ck:Nat),
(X (some ((X none).n H9+1))).aM F6 x8.2.2.1
0 =
some (slice q8 uN Ck) ∧
∃(q9:Option (Nat×Nat)),
∃(sk qQ:Nat),
(X (some ((X none).n H9+1))).aM F6
x8.2.2.1 0 =
some (slice q9 sk qQ) ∧
∃(qP sj:Nat),
(((OH == [(10:UInt8)] && !yV) == true &&
((↑kP:Int) == (0:Int)) == false) =
true →
q8=some (qP,sj) ∧
(0:Int) ≤
(X
(some
((X none).n H9 +
1))).wrap
i64
((↑sk:Int) - (1:Int)) ∧
(X
(some
((X none).n H9 +
1))).wrap
i64
((↑sk:Int) - (1:Int)) <
(↑uN:Int)) ∧
∃(vw:List UInt8),
(X (some ((X none).n H9+1))).aM F6
qP
(sj +
((X
(some
((X none).n H9 +
1))).wrap
i64
((↑sk:Int) -
(1:Int))).toNat *
6 +
0) =
some (str vw) ∧
bif
OH == [(10:UInt8)] && !yV &&
((↑kP:Int) == (0:Int) ||
vw == [(10:UInt8)]) then
∃(xQ:Int),
(X
(some
((X none).n H9 +
1))).aM
F6 x8.2.1 0 =
some (int i64 xQ) ∧
[int i64
((X
(some
((X none).n H9 +
1))).wrap
i64
(xQ +
(1:Int)))].length =
1 ∧
∃(Vy:AH),
(X
(some
((X none).n H9 +
1))).wr
F6 x8.2.1 0
[int i64
((X
(some
((X none).n H9 +
(1 :
Nat)))).wrap
i64
(xQ+(1:Int)))] =
some Vy ∧
Still AJ mU uF Vy ∧
∀(XV:AH),
qv
((X none).n H9 +
1)
Vy XV →
I x1 (kQ+1) AJ
XV
else
∃(PD:Option (Nat×Nat)),
∃(Dy Ak:Nat),
(X
(some
((X none).n H9 +
1))).aM
F6 x8.2.2.1 0 =
some (slice PD Dy Ak) ∧
∃(VN:List UInt8),
∃(CW Gx Gw LI:Bool),
∃(vL:Int),
(X
(some
((X
none).n
H9 +
(1 :
Nat)))).bP
F6
x8.2.2.2.2
0
6 =
some
[str VN,
bool CW,
bool Gx,
bool Gw,
bool LI,
int
i64
vL] ∧
(6 ≤
(16777216 :
Nat) ∧
6 =
6 ∧
0 <
(6 :
Nat) ∧
true =
true ∧
true =
true) ∧
∃(Nn :
Option
(Nat×Nat)),
∃(vU Cj:Nat),
∃(XU :
AH),
(X
(some
((X
none).n
H9 +
(1 :
Nat)))).app
(56 :
Nat)
(56 :
Nat)
(slice
PD
Dy
Ak)
(slice
(some
((X
(some
((X
none).n
H9 +
(1 :
Nat)))).n
F6,
(0 :
Nat)))
(1 :
Nat)
(1 :
Nat))
((X
(some
((X
none).n
H9 +
(1 :
Nat)))).al
F6
(cells
[str
VN,
bool
CW,
bool
Gx,
bool
Gw,
bool
LI,
int
i64
vL]
(79 :
Nat)
{
whole :=
true })) =
some
(slice
Nn
vU
Cj,
XU) ∧
[slice
Nn
vU
Cj].length =
(1 :
Nat) ∧
∃(Vx
:
AH),
(X
(some
((X
none).n
H9 +
(1 :
Nat)))).wr
XU
x8.2.2.1
(0 :
Nat)
[slice
Nn
vU
Cj] =
some
Vx ∧
∃
(Bc
:
Int),
(X
(some
((X
none).n
H9 +
(1 :
Nat)))).aM
Vx
x8.2.2.2.1
(0 :
Nat) =
some
(int
i64
Bc) ∧
[int
i64
((X
(some
((X
none).n
H9 +
(1 :
Nat)))).wrap
i64
(Bc +
(1 :
Int)))].length =
(1 :
Nat) ∧
∃
(Vw
:
AH),
(X
(some
((X
none).n
H9 +
(1 :
Nat)))).wr
Vx
x8.2.2.2.1
(0 :
Nat)
[int
i64
((X
(some
((X
none).n
H9 +
(1 :
Nat)))).wrap
i64
(Bc +
(1 :
Int)))] =
some
Vw ∧
Still
AJ
mU
uF
Vw ∧
∀
(XT :
AH),
qv
((X
none).n
H9 +
(1 :
Nat))
Vw
XT →
I
x1
(kQ +
(1 :
Nat))
AJ
XT) ∧
(∀(Vb:List Nat) (XS GB:AH),
I x1 xs.length Vb XS →
qv ((X none).n H9+1) XS GB →
GC ((X none).n H9) GB →
∃(x9:Nat×Nat×Nat×Nat×Int×Nat→AH→Prop),
(∃(Dr:Int),
(X none).aM GB ((X none).n ((X none).al H4 (cells [slice none 0 0] 56 { whole:=true }))) 0 =
some (int i64 Dr) ∧
∃(JI:Bool),
(X none).aM GB
((X none).n
((X none).al ((X none).al H (cells [int i64 d] 3 { whole:=true }))
(cells [str s,slice q k c] 26 { whole:=true })))
0 =
some (bool JI) ∧
∃(V0:Option (Nat×Nat)),
∃(Gd Fe:Nat),
(X none).aM GB ((X none).n H4) 0=some (slice V0 Gd Fe) ∧
∃(B9:Int),
(X none).aM GB ((X none).n ((X none).al H4 (cells [slice none 0 0] 56 { whole:=true }))) 0 =
some (int i64 B9) ∧
∃(HU HT:Nat),
(((decide (Dr > (0:Int)) && !JI) == true)=true →
V0=some (HU,HT) ∧
(0:Int)≤(X none).wrap i64 (B9 - (1:Int))∧(X none).wrap i64 (B9 - (1:Int))<(↑Gd:Int)) ∧
∃(VM:List UInt8),
(X none).aM GB HU (HT+((X none).wrap i64 (B9 - (1:Int))).toNat*6+0)=some (str VM) ∧
bif decide (Dr > (0:Int)) && !JI && VM == [(10:UInt8)] then
∃(VZ:Option (Nat×Nat)),
∃(HS HQ:Nat),
(X none).aM GB ((X none).n H4) 0=some (slice VZ HS HQ) ∧
∃(EZ:Int),
(X none).aM GB
((X none).n ((X none).al H4 (cells [slice none 0 0] 56 { whole:=true })))
0 =
some (int i64 EZ) ∧
∃(Tu:Option (Nat×Nat)),
∃(Gc Gb:Nat),
(X none).JS 56 (slice VZ HS HQ) none
(some (int i64 ((X none).wrap i64 (EZ - (1:Int))))) none GB =
some (slice Tu Gc Gb) ∧
[slice Tu Gc Gb].length=1 ∧
∃(Vv:AH),
(X none).wr GB ((X none).n H4) 0 [slice Tu Gc Gb]=some Vv ∧
∃(EY:Int),
(X none).aM Vv
((X none).n
((X none).al
((X none).al
((X none).al
((X none).al
((X none).al H (cells [int i64 d] 3 { whole:=true }))
(cells [str s,slice q k c] 26 { whole:=true }))
(cells [bool bl] 4 { whole:=true }))
(cells [str [],slice none 0 0] 26
{ whole:=true }))
(cells [int i64 0] 3 { whole:=true })))
0 =
some (int i64 EY) ∧
[int i64 ((X none).wrap i64 (EY+(1:Int)))].length=1 ∧
∃(XR:AH),
(X none).wr Vv
((X none).n
((X none).al
((X none).al
((X none).al
((X none).al
((X none).al H
(cells [int i64 d] 3 { whole:=true }))
(cells [str s,slice q k c] 26 { whole:=true }))
(cells [bool bl] 4 { whole:=true }))
(cells [str [],slice none 0 0] 26
{ whole:=true }))
(cells [int i64 0] 3 { whole:=true })))
0 [int i64 ((X none).wrap i64 (EY+(1:Int)))] =
some XR ∧
[Mk.mark ((X none).n H9)]=[Mk.mark ((X none).n H9)] ∧
∃(bW:Nat×Nat×Nat×Nat×Int×Nat),
∃(_k37:Nat),
True ∧
[ptr (some ((X none).n H,0)),
ptr
(some
((X none).n
((X none).al
((X none).al
((X none).al H
(cells [int i64 d] 3
{ whole:=true }))
(cells [str s,slice q k c] 26
{ whole:=true }))
(cells [bool bl] 4 { whole:=true })),
0)),
ptr
(some
((X none).n
((X none).al
((X none).al
((X none).al
((X none).al H
(cells [int i64 d] 3
{ whole:=true }))
(cells [str s,slice q k c] 26
{ whole:=true }))
(cells [bool bl] 4 { whole:=true }))
(cells [str [],slice none 0 0]
26 { whole:=true })),
0)),
ptr
(some
((X none).n
((X none).al
((X none).al
((X none).al
((X none).al
((X none).al H
(cells [int i64 d] 3
{ whole:=true }))
(cells [str s,slice q k c] 26
{ whole:=true }))
(cells [bool bl] 4 { whole:=true }))
(cells [str [],slice none 0 0]
26 { whole:=true }))
(cells [int i64 0] 3
{ whole:=true })),
0)),
int i64 0,ptr (some ((X none).n H4,0))] =
[ptr (some (bW.1,0)),ptr (some (bW.2.1,0)),
ptr (some (bW.2.2.1,0)),
ptr (some (bW.2.2.2.1,0)),
int i64 bW.2.2.2.2.1,
ptr (some (bW.2.2.2.2.2,0))] ∧
x9 bW XR
else
[Mk.mark ((X none).n H9)]=[Mk.mark ((X none).n H9)] ∧
∃(dB:Nat×Nat×Nat×Nat×Int×Nat),
∃(_k38:Nat),
True ∧
[ptr (some ((X none).n H,0)),
ptr
(some
((X none).n
((X none).al
((X none).al ((X none).al H (cells [int i64 d] 3 { whole:=true }))
(cells [str s,slice q k c] 26 { whole:=true }))
(cells [bool bl] 4 { whole:=true })),
0)),
ptr
(some
((X none).n
((X none).al
((X none).al
((X none).al ((X none).al H (cells [int i64 d] 3 { whole:=true }))
(cells [str s,slice q k c] 26 { whole:=true }))
(cells [bool bl] 4 { whole:=true }))
(cells [str [],slice none 0 0] 26 { whole:=true })),
0)),
ptr
(some
((X none).n
((X none).al
((X none).al
((X none).al
((X none).al ((X none).al H (cells [int i64 d] 3 { whole:=true }))
(cells [str s,slice q k c] 26 { whole:=true }))
(cells [bool bl] 4 { whole:=true }))
(cells [str [],slice none 0 0] 26 { whole:=true }))
(cells [int i64 0] 3 { whole:=true })),
0)),
int i64 0,ptr (some ((X none).n H4,0))] =
[ptr (some (dB.1,0)),ptr (some (dB.2.1,0)),
ptr (some (dB.2.2.1,0)),ptr (some (dB.2.2.2.1,0)),
int i64 dB.2.2.2.2.1,ptr (some (dB.2.2.2.2.2,0))] ∧
x9 dB GB) ∧
∀(eD:Nat×Nat×Nat×Nat×Int×Nat) (Vu:AH),
x9 eD Vu →
∃(VY:Option (Nat×Nat)),
∃(P2 P1:Nat),
(X none).aM Vu eD.2.2.2.2.2 0=some (slice VY P2 P1) ∧
(X none).call 39 [slice VY P2 P1] Vu fun (v5:AV) (H35:AH) =>
∃(VX:Option (Nat×Nat)),
∃(P0 ON:Nat),
v5=slice VX P0 ON ∧
∃(jT:(Nat×Nat×Nat×Nat×Int×Nat)×(Option (Nat×Nat)×Nat)×Int×Int→AH→Nat→Prop),
(∃(cQ:(Nat×Nat×Nat×Nat×Int×Nat)×(Option (Nat×Nat)×Nat)×Int×Int),
∃(NC:Nat),
[ptr (some (eD.1,0)),ptr (some (eD.2.1,0)),ptr (some (eD.2.2.1,0)),
ptr (some (eD.2.2.2.1,0)),int i64 eD.2.2.2.2.1,
ptr (some (eD.2.2.2.2.2,(0:Nat))),slice VX P0 ON,int i64 (↑P0:Int),
int i64 0] =
[ptr (some (cQ.1.1,0)),ptr (some (cQ.1.2.1,0)),
ptr (some (cQ.1.2.2.1,0)),ptr (some (cQ.1.2.2.2.1,0)),
int i64 cQ.1.2.2.2.2.1,ptr (some (cQ.1.2.2.2.2.2,0)),
slice cQ.2.1.1 cQ.2.1.2 cQ.2.1.2,int i64 cQ.2.2.1,
int i64 cQ.2.2.2] ∧
jT cQ H35 NC) ∧
∀(bD:(Nat×Nat×Nat×Nat×Int×Nat)×(Option (Nat×Nat)×Nat)×Int×Int) (RX:AH) (Md:Nat),
jT bD RX Md →
bif decide (bD.2.2.2<bD.2.2.1) then
∃(Mc Mb:Nat),
(bD.2.1.1=some (Mc,Mb)∧(0:Int)≤bD.2.2.2∧bD.2.2.2<(↑bD.2.1.2:Int)) ∧
∃(Tt:Option (Nat×Nat)),
∃(NA OM:Nat),
(X none).aM RX Mc (Mb+bD.2.2.2.toNat*1)=some (slice Tt NA OM) ∧
(X none).call 40 [slice Tt NA OM] RX fun (v6:AV) (Vt:AH) =>
∃(JH JG JF JE:Bool),
∃(EX:Int),
v6=agg [bool JH,bool JG,bool JF,bool JE,int i64 EX] ∧
[bool JH,bool JG,bool JF,bool JE,int i64 EX].length =
5 ∧
∃(XQ:AH),
(X none).wr
((X none).al Vt
(cells
[bool false,bool false,bool false,bool false,
int i64 0]
53 { whole:=true }))
((X none).n Vt) 0
[bool JH,bool JG,bool JF,bool JE,int i64 EX] =
some XQ ∧
∃(uJ :
((Nat×Nat×Nat×Nat×Int×Nat)×(Option (Nat×Nat)×Nat)×Int×Int) ×
(Option (Nat×Nat)×Nat×Nat)×Nat×Int×Int →
AH→Nat→Prop),
(∃(fy :
((Nat×Nat×Nat×Nat×Int×Nat)×(Option (Nat×Nat)×Nat)×Int×Int) ×
(Option (Nat×Nat)×Nat×Nat)×Nat×Int×Int),
∃(Se:Nat),
[ptr (some (bD.1.1,0)),
ptr (some (bD.1.2.1,0)),
ptr (some (bD.1.2.2.1,0)),
ptr (some (bD.1.2.2.2.1,0)),
int i64 bD.1.2.2.2.2.1,
ptr (some (bD.1.2.2.2.2.2,0)),
slice bD.2.1.1 bD.2.1.2 bD.2.1.2,
int i64 bD.2.2.1,int i64 bD.2.2.2,
slice Tt NA OM,ptr (some ((X none).n Vt,0)),
int i64 (↑NA:Int),int i64 0] =
[ptr (some (fy.1.1.1,0)),
ptr (some (fy.1.1.2.1,0)),
ptr (some (fy.1.1.2.2.1,0)),
ptr (some (fy.1.1.2.2.2.1,0)),
int i64 fy.1.1.2.2.2.2.1,
ptr (some (fy.1.1.2.2.2.2.2,0)),
slice fy.1.2.1.1 fy.1.2.1.2 fy.1.2.1.2,
int i64 fy.1.2.2.1,
int i64 fy.1.2.2.2,
slice fy.2.1.1 fy.2.1.2.1 fy.2.1.2.2,
ptr (some (fy.2.2.1,0)),
int i64 fy.2.2.2.1,
int i64 fy.2.2.2.2] ∧
uJ fy XQ Se) ∧
∀
(bR :
((Nat×Nat×Nat×Nat×Int×Nat)×(Option (Nat×Nat)×Nat)×Int×Int) ×
(Option (Nat×Nat)×Nat×Nat)×Nat×Int×Int)
(JK:AH) (PZ:Nat),
uJ bR JK PZ →
bif decide (bR.2.2.2.2<bR.2.2.2.1) then
∃(jP :
((Nat×Nat×Nat×Nat×Int×Nat) ×
(Option (Nat×Nat)×Nat)×Int×Int) ×
(Option (Nat×Nat)×Nat×Nat)×Nat×Int×Int →
AH→Prop),
(∃(PY OL:Nat),
(bR.2.1.1=some (PY,OL) ∧
(0:Int)≤bR.2.2.2.2 ∧
bR.2.2.2.2<(↑bR.2.1.2.1:Int)) ∧
∃(JD JC JB JA:Bool),
∃(Dq:Int),
(X none).bP JK PY
(OL+bR.2.2.2.2.toNat*6 +
1)
5 =
some
[bool JD,bool JC,bool JB,bool JA,
int i64 Dq] ∧
[bool JD,bool JC,bool JB,bool JA,
int i64 Dq].length =
5 ∧
∃(Pe:AH),
(X none).wr
((X none).al JK
(cells
[bool false,bool false,
bool false,bool false,
int i64 0]
53 { whole:=true }))
((X none).n JK) 0
[bool JD,bool JC,bool JB,
bool JA,int i64 Dq] =
some Pe ∧
∃(dA :
(((Nat×Nat×Nat×Nat×Int×Nat) ×
(Option (Nat×Nat)×Nat)×Int×Int) ×
(Option (Nat×Nat)×Nat×Nat) ×
Nat×Int×Int) ×
Int×Nat →
AH→Prop),
(∃(Dp:Int),
(X none).aM Pe bR.1.1.1 0 =
some (int i64 Dp) ∧
bif Dp == (2:Int) then
1=1 ∧
∃(XP:AH),
(X none).wr Pe ((X none).n JK)
3 [bool false] =
some XP ∧
[Mk.mark ((X none).n H9)] =
[Mk.mark ((X none).n H9)] ∧
∃(fN :
(((Nat ×
Nat ×
Nat ×
Nat×Int×Nat) ×
(Option (Nat×Nat) ×
Nat) ×
Int×Int) ×
(Option (Nat×Nat) ×
Nat×Nat) ×
Nat×Int×Int) ×
Int×Nat),
∃(_k53:Nat),
True ∧
[ptr
(some
(bR.1.1.1,
0)),
ptr
(some
(bR.1.1.2.1,
0)),
ptr
(some
(bR.1.1.2.2.1,
0)),
ptr
(some
(bR.1.1.2.2.2.1,
0)),
int i64
bR.1.1.2.2.2.2.1,
ptr
(some
(bR.1.1.2.2.2.2.2,
0)),
slice
bR.1.2.1.1
bR.1.2.1.2
bR.1.2.1.2,
int i64
bR.1.2.2.1,
int i64
bR.1.2.2.2,
slice
bR.2.1.1
bR.2.1.2.1
bR.2.1.2.2,
ptr
(some
(bR.2.2.1,
0)),
int i64
bR.2.2.2.1,
int i64
bR.2.2.2.2,
int i64
bR.2.2.2.2,
ptr
(some
((X none).n JK,
0))] =
[ptr
(some
(fN.1.1.1.1,
0)),
ptr
(some
(fN.1.1.1.2.1,
0)),
ptr
(some
(fN.1.1.1.2.2.1,
0)),
ptr
(some
(fN.1.1.1.2.2.2.1,
0)),
int i64
fN.1.1.1.2.2.2.2.1,
ptr
(some
(fN.1.1.1.2.2.2.2.2,
0)),
slice
fN.1.1.2.1.1
fN.1.1.2.1.2
fN.1.1.2.1.2,
int i64
fN.1.1.2.2.1,
int i64
fN.1.1.2.2.2,
slice
fN.1.2.1.1
fN.1.2.1.2.1
fN.1.2.1.2.2,
ptr
(some
(fN.1.2.2.1,
0)),
int i64
fN.1.2.2.2.1,
int i64
fN.1.2.2.2.2,
int i64
fN.2.1,
ptr
(some
(fN.2.2,
0))] ∧
dA fN XP
else
bif Dp == (3:Int) then
∃(Jz Pb Pa O9:Bool),
∃(HH:Int),
(X none).bP Pe
bR.2.2.1
0 5 =
some
[bool Jz,
bool Pb,
bool Pa,
bool O9,
int i64
HH] ∧
[bool Jz,bool Pb,
bool Pa,
bool O9,
int i64
HH].length =
5 ∧
∃(XO:AH),
(X none).wr Pe
((X none).n JK)
0
[bool Jz,
bool Pb,
bool Pa,
bool O9,
int
i64
HH] =
some XO ∧
[Mk.mark
((X none).n
H9)] =
[Mk.mark
((X none).n
H9)] ∧
∃(fu :
(((Nat ×
Nat ×
Nat ×
Nat ×
Int ×
Nat) ×
(Option
(Nat ×
Nat) ×
Nat) ×
Int ×
Int) ×
(Option
(Nat ×
Nat) ×
Nat ×
Nat) ×
Nat ×
Int ×
Int) ×
Int×Nat),
∃(_k54:Nat),
True ∧
[ptr
(some
(bR.1.1.1,
(0 :
Nat))),
ptr
(some
(bR.1.1.2.1,
(0 :
Nat))),
ptr
(some
(bR.1.1.2.2.1,
(0 :
Nat))),
ptr
(some
(bR.1.1.2.2.2.1,
(0 :
Nat))),
int
i64
bR.1.1.2.2.2.2.1,
ptr
(some
(bR.1.1.2.2.2.2.2,
(0 :
Nat))),
slice
bR.1.2.1.1
bR.1.2.1.2
bR.1.2.1.2,
int
i64
bR.1.2.2.1,
int
i64
bR.1.2.2.2,
slice
bR.2.1.1
bR.2.1.2.1
bR.2.1.2.2,
ptr
(some
(bR.2.2.1,
(0 :
Nat))),
int
i64
bR.2.2.2.1,
int
i64
bR.2.2.2.2,
int
i64
bR.2.2.2.2,
ptr
(some
((X
none).n
JK,
(0 :
Nat)))] =
[ptr
(some
(fu.1.1.1.1,
(0 :
Nat))),
ptr
(some
(fu.1.1.1.2.1,
(0 :
Nat))),
ptr
(some
(fu.1.1.1.2.2.1,
(0 :
Nat))),
ptr
(some
(fu.1.1.1.2.2.2.1,
(0 :
Nat))),
int
i64
fu.1.1.1.2.2.2.2.1,
ptr
(some
(fu.1.1.1.2.2.2.2.2,
(0 :
Nat))),
slice
fu.1.1.2.1.1
fu.1.1.2.1.2
fu.1.1.2.1.2,
int
i64
fu.1.1.2.2.1,
int
i64
fu.1.1.2.2.2,
slice
fu.1.2.1.1
fu.1.2.1.2.1
fu.1.2.1.2.2,
ptr
(some
(fu.1.2.2.1,
(0 :
Nat))),
int
i64
fu.1.2.2.2.1,
int
i64
fu.1.2.2.2.2,
int
i64
fu.2.1,
ptr
(some
(fu.2.2,
(0 :
Nat)))] ∧
dA fu XO
else
[Mk.mark ((X none).n H9)] =
[Mk.mark ((X none).n H9)] ∧
∃(fQ :
(((Nat ×
Nat ×
Nat×Nat×Int×Nat) ×
(Option (Nat×Nat)×Nat) ×
Int×Int) ×
(Option (Nat×Nat) ×
Nat×Nat) ×
Nat×Int×Int) ×
Int×Nat),
∃(_k55:Nat),
True ∧
[ptr
(some
(bR.1.1.1,
0)),
ptr
(some
(bR.1.1.2.1,
0)),
ptr
(some
(bR.1.1.2.2.1,
0)),
ptr
(some
(bR.1.1.2.2.2.1,
0)),
int i64
bR.1.1.2.2.2.2.1,
ptr
(some
(bR.1.1.2.2.2.2.2,
0)),
slice
bR.1.2.1.1
bR.1.2.1.2
bR.1.2.1.2,
int i64
bR.1.2.2.1,
int i64
bR.1.2.2.2,
slice bR.2.1.1
bR.2.1.2.1
bR.2.1.2.2,
ptr
(some
(bR.2.2.1,
0)),
int i64
bR.2.2.2.1,
int i64
bR.2.2.2.2,
int i64
bR.2.2.2.2,
ptr
(some
((X none).n JK,
0))] =
[ptr
(some
(fQ.1.1.1.1,
0)),
ptr
(some
(fQ.1.1.1.2.1,
0)),
ptr
(some
(fQ.1.1.1.2.2.1,
0)),
ptr
(some
(fQ.1.1.1.2.2.2.1,
0)),
int i64
fQ.1.1.1.2.2.2.2.1,
ptr
(some
(fQ.1.1.1.2.2.2.2.2,
0)),
slice
fQ.1.1.2.1.1
fQ.1.1.2.1.2
fQ.1.1.2.1.2,
int i64
fQ.1.1.2.2.1,
int i64
fQ.1.1.2.2.2,
slice
fQ.1.2.1.1
fQ.1.2.1.2.1
fQ.1.2.1.2.2,
ptr
(some
(fQ.1.2.2.1,
0)),
int i64
fQ.1.2.2.2.1,
int i64
fQ.1.2.2.2.2,
int i64
fQ.2.1,
ptr
(some
(fQ.2.2,
0))] ∧
dA fQ Pe) ∧
∀
(cY :
(((Nat×Nat×Nat×Nat×Int×Nat) ×
(Option (Nat×Nat)×Nat) ×
Int×Int) ×
(Option (Nat×Nat)×Nat×Nat) ×
Nat×Int×Int) ×
Int×Nat)
(Pd:AH),
dA cY Pd →
∃(RJ XB XA Xz:Bool),
∃(Km:Int),
(X none).bP Pd cY.2.2
0 5 =
some
[bool RJ,bool XB,
bool XA,bool Xz,
int i64 Km] ∧
∃(Wi Wh:Nat),
(cY.1.2.1.1 =
some (Wi,Wh) ∧
(0:Int) ≤
cY.2.1 ∧
cY.2.1 <
(↑cY.1.2.1.2.1 :
Int)) ∧
∃(Xy Xx Xw Xv:Bool),
∃(Kl:Int),
(X none).bP Pd
Wi
(Wh +
cY.2.1.toNat *
(6 :
Nat) +
(1 :
Nat))
(5 :
Nat) =
some
[bool
Xy,
bool
Xx,
bool
Xw,
bool
Xv,
int
i64
Kl] ∧
bif
!(RJ ==
Xy &&
(XB ==
Xx &&
(XA ==
Xw &&
(Xz ==
Xv &&
(Km ==
Kl &&
true))))) then
∃(Vk :
Bool),
∃(Vj :
Bool),
∃(Vi :
Bool),
∃(Vh
:
Bool),
∃
(Jq
:
Int),
(X
none).bP
Pd
cY.2.2
(0 :
Nat)
(5 :
Nat) =
some
[bool
Vk,
bool
Vj,
bool
Vi,
bool
Vh,
int
i64
Jq] ∧
∃
(Wg
:
Nat),
∃
(Wf
:
Nat),
(cY.1.2.1.1 =
some
(Wg,
Wf) ∧
(0 :
Int) ≤
cY.2.1 ∧
cY.2.1 <
(↑cY.1.2.1.2.1 :
Int)) ∧
[bool
Vk,
bool
Vj,
bool
Vi,
bool
Vh,
int
i64
Jq].length =
(5 :
Nat) ∧
∃
(XN
:
AH),
(X
none).wr
Pd
Wg
(Wf +
cY.2.1.toNat *
(6 :
Nat) +
(1 :
Nat))
[bool
Vk,
bool
Vj,
bool
Vi,
bool
Vh,
int
i64
Jq] =
some
XN ∧
[Mk.mark
((X
none).n
H9)] =
[Mk.mark
((X
none).n
H9)] ∧
∃
(c9
:
((Nat ×
Nat ×
Nat ×
Nat ×
Int ×
Nat) ×
(Option
(Nat ×
Nat) ×
Nat) ×
Int ×
Int) ×
(Option
(Nat ×
Nat) ×
Nat ×
Nat) ×
Nat ×
Int ×
Int),
∃
(_k60
:
Nat),
True ∧
[ptr
(some
(cY.1.1.1.1,
(0 :
Nat))),
ptr
(some
(cY.1.1.1.2.1,
(0 :
Nat))),
ptr
(some
(cY.1.1.1.2.2.1,
(0 :
Nat))),
ptr
(some
(cY.1.1.1.2.2.2.1,
(0 :
Nat))),
int
i64
((X
none).wrap
i64
(cY.1.1.1.2.2.2.2.1 +
(1 :
Int))),
ptr
(some
(cY.1.1.1.2.2.2.2.2,
(0 :
Nat))),
slice
cY.1.1.2.1.1
cY.1.1.2.1.2
cY.1.1.2.1.2,
int
i64
cY.1.1.2.2.1,
int
i64
cY.1.1.2.2.2,
slice
cY.1.2.1.1
cY.1.2.1.2.1
cY.1.2.1.2.2,
ptr
(some
(cY.1.2.2.1,
(0 :
Nat))),
int
i64
cY.1.2.2.2.1,
int
i64
cY.1.2.2.2.2] =
[ptr
(some
(c9.1.1.1,
(0 :
Nat))),
ptr
(some
(c9.1.1.2.1,
(0 :
Nat))),
ptr
(some
(c9.1.1.2.2.1,
(0 :
Nat))),
ptr
(some
(c9.1.1.2.2.2.1,
(0 :
Nat))),
int
i64
c9.1.1.2.2.2.2.1,
ptr
(some
(c9.1.1.2.2.2.2.2,
(0 :
Nat))),
slice
c9.1.2.1.1
c9.1.2.1.2
c9.1.2.1.2,
int
i64
c9.1.2.2.1,
int
i64
c9.1.2.2.2,
slice
c9.2.1.1
c9.2.1.2.1
c9.2.1.2.2,
ptr
(some
(c9.2.2.1,
(0 :
Nat))),
int
i64
c9.2.2.2.1,
int
i64
c9.2.2.2.2] ∧
jP
c9
XN
else
[Mk.mark
((X
none).n
H9)] =
[Mk.mark
((X
none).n
H9)] ∧
∃(fP :
((Nat ×
Nat ×
Nat ×
Nat ×
Int ×
Nat) ×
(Option
(Nat ×
Nat) ×
Nat) ×
Int ×
Int) ×
(Option
(Nat ×
Nat) ×
Nat ×
Nat) ×
Nat ×
Int ×
Int),
∃(_k61 :
Nat),
True ∧
[ptr
(some
(cY.1.1.1.1,
(0 :
Nat))),
ptr
(some
(cY.1.1.1.2.1,
(0 :
Nat))),
ptr
(some
(cY.1.1.1.2.2.1,
(0 :
Nat))),
ptr
(some
(cY.1.1.1.2.2.2.1,
(0 :
Nat))),
int
i64
cY.1.1.1.2.2.2.2.1,
ptr
(some
(cY.1.1.1.2.2.2.2.2,
(0 :
Nat))),
slice
cY.1.1.2.1.1
cY.1.1.2.1.2
cY.1.1.2.1.2,
int
i64
cY.1.1.2.2.1,
int
i64
cY.1.1.2.2.2,
slice
cY.1.2.1.1
cY.1.2.1.2.1
cY.1.2.1.2.2,
ptr
(some
(cY.1.2.2.1,
(0 :
Nat))),
int
i64
cY.1.2.2.2.1,
int
i64
cY.1.2.2.2.2] =
[ptr
(some
(fP.1.1.1,
(0 :
Nat))),
ptr
(some
(fP.1.1.2.1,
(0 :
Nat))),
ptr
(some
(fP.1.1.2.2.1,
(0 :
Nat))),
ptr
(some
(fP.1.1.2.2.2.1,
(0 :
Nat))),
int
i64
fP.1.1.2.2.2.2.1,
ptr
(some
(fP.1.1.2.2.2.2.2,
(0 :
Nat))),
slice
fP.1.2.1.1
fP.1.2.1.2
fP.1.2.1.2,
int
i64
fP.1.2.2.1,
int
i64
fP.1.2.2.2,
slice
fP.2.1.1
fP.2.1.2.1
fP.2.1.2.2,
ptr
(some
(fP.2.2.1,
(0 :
Nat))),
int
i64
fP.2.2.2.1,
int
i64
fP.2.2.2.2] ∧
jP
fP
Pd) ∧
∀
(jS :
((Nat×Nat×Nat×Nat×Int×Nat) ×
(Option (Nat×Nat)×Nat)×Int×Int) ×
(Option (Nat×Nat)×Nat×Nat)×Nat×Int×Int)
(XM:AH),
jP jS XM →
[Mk.mark ((X none).n H9)]=[Mk.mark ((X none).n H9)] ∧
∃(nx :
((Nat×Nat×Nat×Nat×Int×Nat) ×
(Option (Nat×Nat)×Nat)×Int×Int) ×
(Option (Nat×Nat)×Nat×Nat)×Nat×Int×Int),
∃(We:Nat),
We<PZ ∧
[ptr (some (jS.1.1.1,0)),
ptr (some (jS.1.1.2.1,0)),
ptr (some (jS.1.1.2.2.1,0)),
ptr (some (jS.1.1.2.2.2.1,0)),
int i64 jS.1.1.2.2.2.2.1,
ptr
(some (jS.1.1.2.2.2.2.2,0)),
slice jS.1.2.1.1 jS.1.2.1.2
jS.1.2.1.2,
int i64 jS.1.2.2.1,
int i64 jS.1.2.2.2,
slice jS.2.1.1 jS.2.1.2.1
jS.2.1.2.2,
ptr (some (jS.2.2.1,0)),
int i64 jS.2.2.2.1,
int i64
((X none).wrap i64
(jS.2.2.2.2+(1:Int)))] =
[ptr (some (nx.1.1.1,0)),
ptr (some (nx.1.1.2.1,0)),
ptr (some (nx.1.1.2.2.1,0)),
ptr (some (nx.1.1.2.2.2.1,0)),
int i64 nx.1.1.2.2.2.2.1,
ptr
(some (nx.1.1.2.2.2.2.2,0)),
slice nx.1.2.1.1 nx.1.2.1.2
nx.1.2.1.2,
int i64 nx.1.2.2.1,
int i64 nx.1.2.2.2,
slice nx.2.1.1 nx.2.1.2.1
nx.2.1.2.2,
ptr (some (nx.2.2.1,0)),
int i64 nx.2.2.2.1,
int i64 nx.2.2.2.2] ∧
uJ nx XM We
else
[Mk.mark ((X none).n H9)]=[Mk.mark ((X none).n H9)] ∧
∃(yW :
(Nat×Nat×Nat×Nat×Int×Nat) ×
(Option (Nat×Nat)×Nat)×Int×Int),
∃(Wd:Nat),
Wd<Md ∧
[ptr (some (bR.1.1.1,0)),
ptr (some (bR.1.1.2.1,0)),
ptr (some (bR.1.1.2.2.1,0)),
ptr (some (bR.1.1.2.2.2.1,0)),
int i64 bR.1.1.2.2.2.2.1,
ptr (some (bR.1.1.2.2.2.2.2,0)),
slice bR.1.2.1.1 bR.1.2.1.2
bR.1.2.1.2,
int i64 bR.1.2.2.1,
int i64
((X none).wrap i64 (bR.1.2.2.2+(1:Int)))] =
[ptr (some (yW.1.1,0)),
ptr (some (yW.1.2.1,0)),
ptr (some (yW.1.2.2.1,0)),
ptr (some (yW.1.2.2.2.1,0)),
int i64 yW.1.2.2.2.2.1,
ptr (some (yW.1.2.2.2.2.2,0)),
slice yW.2.1.1 yW.2.1.2 yW.2.1.2,
int i64 yW.2.2.1,
int i64 yW.2.2.2] ∧
jT yW JK Wd
else
∃(VW:Option (Nat×Nat)),
∃(Wc Wb:Nat),
(X none).aM RX bD.1.2.2.2.2.2 0=some (slice VW Wc Wb) ∧
(X none).call 30 [slice VW Wc Wb] RX fun (v7:AV) (H46:AH) =>
∃(Tl:List UInt8),
∃(Tq:Option (Nat×Nat)),
∃(TE TD:Nat),
∃(HG:Int),
v7=tuple [agg [str Tl,slice Tq TE TD],int i64 HG] ∧
[str Tl,slice Tq TE TD].length=2 ∧
∃(Pc:AH),
(X none).wr H46 bD.1.2.1 0 [str Tl,slice Tq TE TD]=some Pc ∧
bif HG != (0:Int) then
[str [],slice none 0 0].length=2 ∧
∃(XL:AH),
(X none).wr Pc bD.1.2.1 0 [str [],slice none 0 0] =
some XL ∧
1=1 ∧
∃(XJ:AH),
(X none).wr XL bD.1.2.2.1 0 [int i64 0] =
some XJ ∧
1=1 ∧
∃(XI:AH),
(X none).wr XJ bD.1.2.2.2.1 0
[int i64 0] =
some XI ∧
∃(RW:AH),
(X none).tm [Mk.mark ((X none).n H9)] XI=some RW ∧
∃(VL:List UInt8),
∃(VV:Option (Nat×Nat)),
∃(Wa V9:Nat),
(X none).bP RW bD.1.2.1 0 2 =
some [str VL,slice VV Wa V9] ∧
∃(Kk:Int),
(X none).aM RW bD.1.2.2.1 0 =
some (int i64 Kk) ∧
∃(Ma:Int),
(X none).aM RW bD.1.2.2.2.1 0 =
some (int i64 Ma) ∧
Q
(tuple
[agg [str VL,slice VV Wa V9],
int i64 Kk,int i64 Ma,
int i64 0,
int i64 HG])
RW
else
∃(Tk:List UInt8),
∃(Tp:Option (Nat×Nat)),
∃(TC TB:Nat),
(X none).bP Pc bD.1.2.1 0 2 =
some [str Tk,slice Tp TC TB] ∧
∃(Jp:Int),
(X none).aM Pc bD.1.2.2.1 0=some (int i64 Jp) ∧
∃(Ga:Int),
(X none).aM Pc bD.1.2.2.2.1 0 =
some (int i64 Ga) ∧
[str Tk,slice Tp TC TB].length=2 ∧
∃(S7:AH),
(X none).wr Pc bD.1.2.1 0
[str Tk,slice Tp TC TB] =
some S7 ∧
(∃(L9:Int),
(X none).aM S7 bD.1.2.2.2.1 0 =
some (int i64 L9) ∧
int i64 L9=int i64 Ga) ∧
(∃(L8:Int),
(X none).aM S7 bD.1.2.2.1 0 =
some (int i64 L8) ∧
int i64 L8=int i64 Jp) ∧
[int i64 Jp].length=1 ∧
∃(Vs:AH),
(X none).wr S7 bD.1.2.2.1 0
[int i64 Jp] =
some Vs ∧
(∃(L7:Int),
(X none).aM Vs bD.1.2.2.2.1 0 =
some (int i64 L7) ∧
int i64 L7=int i64 Ga) ∧
[int i64 Ga].length=1 ∧
∃(XH:AH),
(X none).wr Vs bD.1.2.2.2.1 0
[int i64 Ga] =
some XH ∧
∃(RV:AH),
(X none).tm [Mk.mark ((X none).n H9)] XH =
some RV ∧
∃(VJ:List UInt8),
∃(VU:Option (Nat×Nat)),
∃(V8 V7:Nat),
(X none).bP RV bD.1.2.1
0 2 =
some
[str VJ,
slice VU V8 V7] ∧
∃(L6:Int),
(X none).aM RV bD.1.2.2.1
0 =
some (int i64 L6) ∧
∃(L5:Int),
(X none).aM RV
bD.1.2.2.2.1
0 =
some
(int i64 L5) ∧
Q
(tuple
[agg
[str VJ,
slice VU V8
V7],
int i64 L6,
int i64 L5,
int i64
bD.1.2.2.2.2.1,
int i64
(0:Int)])
RV) ∧
True):=by kernel_rfl
end Go.Proofs.YtlkdhhkncoekgaaDoor
