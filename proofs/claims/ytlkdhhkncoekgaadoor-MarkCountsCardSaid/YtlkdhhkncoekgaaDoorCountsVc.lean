/- What functions ask (printed). -/
import Derived.Test.YtlkdhhkncoekgaaDoorAmTri
import Derived.Test.YtlkdhhkncoekgaaDoorTabs
namespace Go.Proofs.YtlkdhhkncoekgaaDoor
open Go.Am Go
open _root_.Go.Am.AV (int slice ptr str bool agg tuple)
open _root_.Go.IntKind (i64 i32 u8 u64)
open _root_.Go.Am.aS (cells)
theorem FI (X:Option Nat→aN) (It:FuncId→List AV→List AV→(AH→Prop)→List (List AV)→Prop) (d:Int) (s:List UInt8) (q:Option (Nat×Nat)) (k c:Nat) (bl:Bool) (H:AH) (Q:AV→AH→Prop):(oh X It Tryd.prog [⟨200004,Int×Nat×Bool,[0,4,37],fun x=>[.int .i64 x.1,.ptr (some (x.2.1,0)),.bool x.2.2],fun _ _ _=>True⟩,⟨11,(Int×Nat×Nat×Int×Int×Int)×(Option (Nat×Nat)×Nat)×Nat,[0,4,7,8,9,10,12,13,57],fun x=>[.int .i64 x.1.1,.ptr (some (x.1.2.1,0)),.ptr (some (x.1.2.2.1,0)),.int .i64 x.1.2.2.2.1,.int .i64 x.1.2.2.2.2.1,.int .i64 x.1.2.2.2.2.2,.slice x.2.1.1 x.2.1.2 x.2.1.2,.slice none 0 0,.ptr (some (x.2.2,0))],fun _ _ _=>True⟩,⟨15,(Int×Nat×Nat×Int×Int×Int)×(Option (Nat×Nat)×Nat)×(Option (Nat×Nat)×Nat)×Nat,[0,4,7,8,9,10,12,13,67],fun x=>[.int .i64 x.1.1,.ptr (some (x.1.2.1,0)),.ptr (some (x.1.2.2.1,0)),.int .i64 x.1.2.2.2.1,.int .i64 x.1.2.2.2.2.1,.int .i64 x.1.2.2.2.2.2,.slice x.2.1.1 x.2.1.2 x.2.1.2,.slice x.2.2.1.1 x.2.2.1.2 x.2.2.1.2,.ptr (some (x.2.2.2,0))],fun _ _ _=>True⟩,⟨25,(Int×Nat×Int×Int)×((Option (Nat×Nat)×Nat)×(Option (Nat×Nat)×Nat)×(Option (Nat×Nat)×Nat)×(Option (Nat×Nat)×Nat))×Int×Int×Int,[0,4,8,10,12,13,18,19,20,21,22],fun x=>[.int .i64 x.1.1,.ptr (some (x.1.2.1,0)),.int .i64 x.1.2.2.1,.int .i64 x.1.2.2.2,.slice x.2.1.1.1 x.2.1.1.2 x.2.1.1.2,.slice x.2.1.2.1.1 x.2.1.2.1.2 x.2.1.2.1.2,.slice x.2.1.2.2.1.1 x.2.1.2.2.1.2 x.2.1.2.2.1.2,.slice x.2.1.2.2.2.1 x.2.1.2.2.2.2 x.2.1.2.2.2.2,.int .i64 x.2.2.1,.int .i64 x.2.2.2.1,.int .i64 x.2.2.2.2],fun _ _ _=>True⟩,⟨200031,(Int×Nat×Int×Int)×((Option (Nat×Nat)×Nat)×(Option (Nat×Nat)×Nat)×(Option (Nat×Nat)×Nat)×(Option (Nat×Nat)×Nat))×Int×Int×Int,[0,4,8,10,12,13,18,19,20,21,22],fun x=>[.int .i64 x.1.1,.ptr (some (x.1.2.1,0)),.int .i64 x.1.2.2.1,.int .i64 x.1.2.2.2,.slice x.2.1.1.1 x.2.1.1.2 x.2.1.1.2,.slice x.2.1.2.1.1 x.2.1.2.1.2 x.2.1.2.1.2,.slice x.2.1.2.2.1.1 x.2.1.2.2.1.2 x.2.1.2.2.1.2,.slice x.2.1.2.2.2.1 x.2.1.2.2.2.2 x.2.1.2.2.2.2,.int .i64 x.2.2.1,.int .i64 x.2.2.2.1,.int .i64 x.2.2.2.2],fun _ _ _=>True⟩,⟨200026,(Int×Nat×Int×Int)×((Option (Nat×Nat)×Nat)×(Option (Nat×Nat)×Nat)×(Option (Nat×Nat)×Nat)×(Option (Nat×Nat)×Nat))×Int×Int×Int,[0,4,8,10,12,13,18,19,20,21,22],fun x=>[.int .i64 x.1.1,.ptr (some (x.1.2.1,0)),.int .i64 x.1.2.2.1,.int .i64 x.1.2.2.2,.slice x.2.1.1.1 x.2.1.1.2 x.2.1.1.2,.slice x.2.1.2.1.1 x.2.1.2.1.2 x.2.1.2.1.2,.slice x.2.1.2.2.1.1 x.2.1.2.2.1.2 x.2.1.2.2.1.2,.slice x.2.1.2.2.2.1 x.2.1.2.2.2.2 x.2.1.2.2.2.2,.int .i64 x.2.2.1,.int .i64 x.2.2.2.1,.int .i64 x.2.2.2.2],fun _ _ _=>True⟩] [] 9 [.int .i64 d,.agg [.str s,.slice q k c],.bool bl] H Q) =
(true=true ∧
(X none).call 10 [] ((X none).al H (cells [str s,slice q k c] 26 { whole:=true })) fun (v1:AV) (H1:AH) =>
∃(b1:Bool),
v1=bool b1 ∧
bif !b1 then Q (bool false) H1
else
∃(x1:Int×Nat×Bool→AH→Prop),
((X none).call 11 [int i64 d] H1 fun (v2:AV) (H2:AH) =>
∃(b2:Bool),
v2=bool b2 ∧
∃(s1:List UInt8),
∃(q1:Option (Nat×Nat)),
∃(k1 k2:Nat),
(X none).bP H2 ((X none).n H) 0 2=some [str s1,slice q1 k1 k2] ∧
bif (!b2) == false then
(X none).call 14 [agg [str s1,slice q1 k1 k2]] H2 fun (v3:AV) (H3:AH) =>
∃(b3:Bool),
v3=bool b3 ∧
∃(x2:Int×Nat×Bool),
∃(_k3:Nat),True∧[int i64 d,ptr (some ((X none).n H,0)),bool !b3]=[int i64 x2.1,ptr (some (x2.2.1,0)),bool x2.2.2]∧x1 x2 H3
else
∃(x3:Int×Nat×Bool),
∃(_k4:Nat),True∧[int i64 d,ptr (some ((X none).n H,0)),bool true]=[int i64 x3.1,ptr (some (x3.2.1,0)),bool x3.2.2]∧x1 x3 H2) ∧
∀(x4:Int×Nat×Bool) (H4:AH),
x1 x4 H4 →
bif x4.2.2 then Q (bool true) H4
else
∃(s2:List UInt8),
∃(q2:Option (Nat×Nat)),
∃(k5 k6:Nat),
(X none).bP H4 x4.2.1 0 2=some [str s2,slice q2 k5 k6] ∧
(X none).call 20 [int i64 x4.1,agg [str s2,slice q2 k5 k6],bool true] H4 fun (v4:AV) (H5:AH) =>
∃(s3:List UInt8),
∃(q3:Option (Nat×Nat)),
∃(k7 k8:Nat),
∃(n1 n2 n3 n4:Int),
v4=tuple [agg [str s3,slice q3 k7 k8],int i64 n1,int i64 n2,int i64 n3,int i64 n4] ∧
[str s3,slice q3 k7 k8].length=2 ∧
∃(H6:AH),
(X none).wr ((X none).al H5 (cells [str [],slice none 0 0] 26 { whole:=true })) ((X none).n H5) 0 [str s3,slice q3 k7 k8]=some H6 ∧
bif n4 != (0:Int) then Q (bool (n4 == (3:Int) || n4 == (2:Int))) H6
else
∃(s4:List UInt8),
(X none).aM H6 x4.2.1 0=some (str s4) ∧
∃(x5:(Int×Nat×Nat×Int×Int×Int)×(Option (Nat×Nat)×Nat)×Nat→AH→Nat→Prop),
(∃(x6:(Int×Nat×Nat×Int×Int×Int)×(Option (Nat×Nat)×Nat)×Nat),
∃(k9:Nat),
[int i64 x4.1,ptr (some (x4.2.1,0)),ptr (some ((X none).n H5,0)),int i64 n1,int i64 n2,
int i64 n3,slice none 0 0,slice none 0 0,ptr (some ((X none).n H6,0))] =
[int i64 x6.1.1,ptr (some (x6.1.2.1,0)),ptr (some (x6.1.2.2.1,0)),int i64 x6.1.2.2.2.1,
int i64 x6.1.2.2.2.2.1,int i64 x6.1.2.2.2.2.2,slice x6.2.1.1 x6.2.1.2 x6.2.1.2,
slice none 0 0,ptr (some (x6.2.2,0))] ∧
x5 x6 ((X none).al H6 (aS.iter s4 0)) k9) ∧
∀(x7:(Int×Nat×Nat×Int×Int×Int)×(Option (Nat×Nat)×Nat)×Nat) (H7:AH) (nO:Nat),
x5 x7 H7 nO →
∃(s5:List UInt8),
∃(gQ:Nat),
(X none).get H7 x7.2.2=some (aS.iter s5 gQ) ∧
(gQ<s5.length →
(1≤16777216∧1=1∧0<1∧true=true∧true=true) ∧
∃(q4:Option (Nat×Nat)),
∃(mF nN:Nat),
∃(H8:AH),
(X none).app 49 49 (slice x7.2.1.1 x7.2.1.2 x7.2.1.2)
(slice (some ((X none).n ((X none).set H7 x7.2.2 (aS.iter s5 (gQ+(ah s5 gQ).2))),0)) 1 1)
((X none).al ((X none).set H7 x7.2.2 (aS.iter s5 (gQ+(ah s5 gQ).2)))
(cells [int i32 (↑(ah s5 gQ).1:Int)] (21:Nat) { whole:=true })) =
some (slice q4 mF nN,H8) ∧
∃(x8:(Int×Nat×Nat×Int×Int×Int)×(Option (Nat×Nat)×Nat)×Nat),
∃(kQ:Nat),
kQ<nO ∧
[int i64 x7.1.1,ptr (some (x7.1.2.1,0)),ptr (some (x7.1.2.2.1,0)),
int i64 x7.1.2.2.2.1,int i64 x7.1.2.2.2.2.1,int i64 x7.1.2.2.2.2.2,
slice q4 mF nN,slice none 0 0,ptr (some (x7.2.2,0))] =
[int i64 x8.1.1,ptr (some (x8.1.2.1,0)),ptr (some (x8.1.2.2.1,0)),
int i64 x8.1.2.2.2.1,int i64 x8.1.2.2.2.2.1,int i64 x8.1.2.2.2.2.2,
slice x8.2.1.1 x8.2.1.2 x8.2.1.2,slice none 0 0,ptr (some (x8.2.2,0))] ∧
x5 x8 H8 kQ) ∧
(¬gQ<s5.length →
∃(s6:List UInt8),
(X none).aM H7 x7.1.2.2.1 0=some (str s6) ∧
∃(x9:(Int×Nat×Nat×Int×Int×Int)×(Option (Nat×Nat)×Nat)×(Option (Nat×Nat)×Nat)×Nat→AH→Nat→Prop),
(∃(bW:(Int×Nat×Nat×Int×Int×Int)×(Option (Nat×Nat)×Nat)×(Option (Nat×Nat)×Nat)×Nat),
∃(nh:Nat),
[int i64 x7.1.1,ptr (some (x7.1.2.1,0)),ptr (some (x7.1.2.2.1,0)),
int i64 x7.1.2.2.2.1,int i64 x7.1.2.2.2.2.1,int i64 x7.1.2.2.2.2.2,
slice x7.2.1.1 x7.2.1.2 x7.2.1.2,slice none 0 0,ptr (some ((X none).n H7,0))] =
[int i64 bW.1.1,ptr (some (bW.1.2.1,0)),ptr (some (bW.1.2.2.1,0)),
int i64 bW.1.2.2.2.1,int i64 bW.1.2.2.2.2.1,int i64 bW.1.2.2.2.2.2,
slice bW.2.1.1 bW.2.1.2 bW.2.1.2,slice bW.2.2.1.1 bW.2.2.1.2 bW.2.2.1.2,
ptr (some (bW.2.2.2,0))] ∧
x9 bW ((X none).al H7 (aS.iter s6 0)) nh) ∧
∀(dB:(Int×Nat×Nat×Int×Int×Int)×(Option (Nat×Nat)×Nat)×(Option (Nat×Nat)×Nat)×Nat) (H9:AH) (rJ:Nat),
x9 dB H9 rJ →
∃(s7:List UInt8),
∃(kP:Nat),
(X none).get H9 dB.2.2.2=some (aS.iter s7 kP) ∧
(kP<s7.length →
(1≤16777216∧1=1∧0<1∧true=true∧true=true) ∧
∃(q5:Option (Nat×Nat)),
∃(oV uN:Nat),
∃(kN:AH),
(X none).app 49 49 (slice dB.2.2.1.1 dB.2.2.1.2 dB.2.2.1.2)
(slice (some ((X none).n ((X none).set H9 dB.2.2.2 (aS.iter s7 (kP+(ah s7 kP).2))),0))
1 1)
((X none).al ((X none).set H9 dB.2.2.2 (aS.iter s7 (kP+(ah s7 kP).2)))
(cells [int i32 (↑(ah s7 kP).1:Int)] (21:Nat) { whole:=true })) =
some (slice q5 oV uN,kN) ∧
∃(eD:(Int×Nat×Nat×Int×Int×Int)×(Option (Nat×Nat)×Nat)×(Option (Nat×Nat)×Nat)×Nat),
∃(Ck:Nat),
Ck<rJ ∧
[int i64 dB.1.1,ptr (some (dB.1.2.1,0)),
ptr (some (dB.1.2.2.1,0)),int i64 dB.1.2.2.2.1,
int i64 dB.1.2.2.2.2.1,int i64 dB.1.2.2.2.2.2,
slice dB.2.1.1 dB.2.1.2 dB.2.1.2,slice q5 oV uN,
ptr (some (dB.2.2.2,0))] =
[int i64 eD.1.1,ptr (some (eD.1.2.1,0)),
ptr (some (eD.1.2.2.1,0)),int i64 eD.1.2.2.2.1,
int i64 eD.1.2.2.2.2.1,int i64 eD.1.2.2.2.2.2,
slice eD.2.1.1 eD.2.1.2 eD.2.1.2,
slice eD.2.2.1.1 eD.2.2.1.2 eD.2.2.1.2,
ptr (some (eD.2.2.2,0))] ∧
x9 eD kN Ck) ∧
(¬kP<s7.length →
bif (↑dB.2.1.2:Int) != (↑dB.2.2.1.2:Int) || dB.1.2.2.2.2.1 != (0:Int) then Q (bool false) H9
else
∃(s8:List UInt8),
∃(q6:Option (Nat×Nat)),
∃(sk qQ:Nat),
(X none).bP H9 dB.1.2.1 0 2=some [str s8,slice q6 sk qQ] ∧
(X none).call 21 [agg [str s8,slice q6 sk qQ]] H9 fun (v5:AV) (oe:AH) =>
∃(q7:Option (Nat×Nat)),
∃(qP sj:Nat),
v5=slice q7 qP sj ∧
∃(s9:List UInt8),
∃(q8:Option (Nat×Nat)),
∃(Dy Ak:Nat),
(X none).bP oe dB.1.2.2.1 0 2=some [str s9,slice q8 Dy Ak] ∧
(X none).call 21 [agg [str s9,slice q8 Dy Ak]] oe fun (v6:AV) (uS:AH) =>
∃(q9:Option (Nat×Nat)),
∃(vU Cj:Nat),
v6=slice q9 vU Cj ∧
∃(jT :
(Int×Nat×Int×Int) ×
((Option (Nat×Nat)×Nat) ×
(Option (Nat×Nat)×Nat)×(Option (Nat×Nat)×Nat)×Option (Nat×Nat)×Nat) ×
Int×Int×Int →
AH→Nat→Prop),
(∃(cQ :
(Int×Nat×Int×Int) ×
((Option (Nat×Nat)×Nat) ×
(Option (Nat×Nat)×Nat) ×
(Option (Nat×Nat)×Nat)×Option (Nat×Nat)×Nat) ×
Int×Int×Int),
∃(Gd:Nat),
[int i64 dB.1.1,ptr (some (dB.1.2.1,0)),
int i64 dB.1.2.2.2.1,
int i64 dB.1.2.2.2.2.2,
slice dB.2.1.1 dB.2.1.2 dB.2.1.2,
slice dB.2.2.1.1 dB.2.2.1.2 dB.2.2.1.2,
slice q7 qP sj,slice q9 vU Cj,int i64 0,
int i64 0,int i64 0] =
[int i64 cQ.1.1,ptr (some (cQ.1.2.1,0)),
int i64 cQ.1.2.2.1,int i64 cQ.1.2.2.2,
slice cQ.2.1.1.1 cQ.2.1.1.2 cQ.2.1.1.2,
slice cQ.2.1.2.1.1 cQ.2.1.2.1.2 cQ.2.1.2.1.2,
slice cQ.2.1.2.2.1.1 cQ.2.1.2.2.1.2
cQ.2.1.2.2.1.2,
slice cQ.2.1.2.2.2.1 cQ.2.1.2.2.2.2
cQ.2.1.2.2.2.2,
int i64 cQ.2.2.1,int i64 cQ.2.2.2.1,
int i64 cQ.2.2.2.2] ∧
jT cQ uS Gd) ∧
∀
(bD :
(Int×Nat×Int×Int) ×
((Option (Nat×Nat)×Nat) ×
(Option (Nat×Nat)×Nat) ×
(Option (Nat×Nat)×Nat)×Option (Nat×Nat)×Nat) ×
Int×Int×Int)
(mR:AH) (Fe:Nat),
jT bD mR Fe →
bif decide (bD.2.2.2.2<(↑bD.2.1.1.2:Int)) then
∃(uJ :
(Int×Nat×Int×Int) ×
((Option (Nat×Nat)×Nat) ×
(Option (Nat×Nat)×Nat) ×
(Option (Nat×Nat)×Nat)×Option (Nat×Nat)×Nat) ×
Int×Int×Int →
AH→Prop),
(∃(fy :
(Int×Nat×Int×Int) ×
((Option (Nat×Nat)×Nat) ×
(Option (Nat×Nat)×Nat) ×
(Option (Nat×Nat)×Nat)×Option (Nat×Nat)×Nat) ×
Int×Int×Int →
AH→Prop),
(∃(HU HT:Nat),
(bD.2.1.1.1=some (HU,HT) ∧
(0:Int)≤bD.2.2.2.2 ∧
bD.2.2.2.2<(↑bD.2.1.1.2:Int)) ∧
∃(n5:Int),
(X none).aM mR HU (HT+bD.2.2.2.2.toNat*1) =
some (int i32 n5) ∧
∃(HS HQ:Nat),
(bD.2.1.2.1.1=some (HS,HQ) ∧
(0:Int)≤bD.2.2.2.2 ∧
bD.2.2.2.2<(↑bD.2.1.2.1.2:Int)) ∧
∃(n6:Int),
(X none).aM mR HS
(HQ+bD.2.2.2.2.toNat*1) =
some (int i32 n6) ∧
bif n5 != n6 then
∃(Gc Gb:Nat),
(bD.2.1.2.1.1=some (Gc,Gb) ∧
(0:Int)≤bD.2.2.2.2 ∧
bD.2.2.2.2 <
(↑bD.2.1.2.1.2:Int)) ∧
∃(n7:Int),
(X none).aM mR Gc
(Gb +
bD.2.2.2.2.toNat*1) =
some (int i32 n7) ∧
∃(Mf Me:Nat),
(((n7 != (32:Int)) == true)=true →
bD.2.1.2.1.1 =
some (Mf,Me) ∧
(0:Int)≤bD.2.2.2.2 ∧
bD.2.2.2.2 <
(↑bD.2.1.2.1.2 :
Int)) ∧
∃(n8:Int),
(((n7 != (32:Int)) == true)=true →
(X none).aM mR Mf
(Me +
bD.2.2.2.2.toNat *
1) =
some (int i32 n8)) ∧
∃(P2 P1:Nat),
(((n7 != (32:Int)) == true &&
decide
(n8 <
(65280:Int)) ==
false) =
true →
bD.2.1.2.1.1 =
some (P2,P1) ∧
(0:Int) ≤
bD.2.2.2.2 ∧
bD.2.2.2.2 <
(↑bD.2.1.2.1.2 :
Int)) ∧
∃(n9:Int),
(((n7 != (32:Int)) ==
true &&
decide
(n8 <
(65280 :
Int)) ==
false) =
true →
(X none).aM mR P2
(P1 +
bD.2.2.2.2.toNat *
1) =
some
(int i32
n9)) ∧
bif
n7 != (32:Int) &&
(decide
(n8 <
(65280 :
Int)) ||
decide
(n9 >
(65519 :
Int))) then
Q (bool false) mR
else
∃(bR :
(Int ×
Nat×Int×Int) ×
((Option
(Nat ×
Nat) ×
Nat) ×
(Option
(Nat ×
Nat) ×
Nat) ×
(Option
(Nat ×
Nat) ×
Nat) ×
Option
(Nat ×
Nat) ×
Nat) ×
Int×Int×Int),
∃(_k41:Nat),
True ∧
[int
i64
bD.1.1,
ptr
(some
(bD.1.2.1,
(0 :
Nat))),
int
i64
bD.1.2.2.1,
int
i64
bD.1.2.2.2,
slice
bD.2.1.1.1
bD.2.1.1.2
bD.2.1.1.2,
slice
bD.2.1.2.1.1
bD.2.1.2.1.2
bD.2.1.2.1.2,
slice
bD.2.1.2.2.1.1
bD.2.1.2.2.1.2
bD.2.1.2.2.1.2,
slice
bD.2.1.2.2.2.1
bD.2.1.2.2.2.2
bD.2.1.2.2.2.2,
int
i64
((X
none).wrap
i64
(bD.2.2.1 +
(1 :
Int))),
int
i64
bD.2.2.2.1,
int
i64
bD.2.2.2.2] =
[int
i64
bR.1.1,
ptr
(some
(bR.1.2.1,
(0 :
Nat))),
int
i64
bR.1.2.2.1,
int
i64
bR.1.2.2.2,
slice
bR.2.1.1.1
bR.2.1.1.2
bR.2.1.1.2,
slice
bR.2.1.2.1.1
bR.2.1.2.1.2
bR.2.1.2.1.2,
slice
bR.2.1.2.2.1.1
bR.2.1.2.2.1.2
bR.2.1.2.2.1.2,
slice
bR.2.1.2.2.2.1
bR.2.1.2.2.2.2
bR.2.1.2.2.2.2,
int
i64
bR.2.2.1,
int
i64
bR.2.2.2.1,
int
i64
bR.2.2.2.2] ∧
fy bR mR
else
∃(jP :
(Int×Nat×Int×Int) ×
((Option (Nat×Nat)×Nat) ×
(Option (Nat×Nat)×Nat) ×
(Option (Nat×Nat)×Nat) ×
Option (Nat×Nat)×Nat) ×
Int×Int×Int),
∃(_k42:Nat),
True ∧
[int i64 bD.1.1,
ptr (some (bD.1.2.1,0)),
int i64 bD.1.2.2.1,
int i64 bD.1.2.2.2,
slice bD.2.1.1.1
bD.2.1.1.2 bD.2.1.1.2,
slice bD.2.1.2.1.1
bD.2.1.2.1.2
bD.2.1.2.1.2,
slice bD.2.1.2.2.1.1
bD.2.1.2.2.1.2
bD.2.1.2.2.1.2,
slice bD.2.1.2.2.2.1
bD.2.1.2.2.2.2
bD.2.1.2.2.2.2,
int i64 bD.2.2.1,
int i64 bD.2.2.2.1,
int i64 bD.2.2.2.2] =
[int i64 jP.1.1,
ptr (some (jP.1.2.1,0)),
int i64 jP.1.2.2.1,
int i64 jP.1.2.2.2,
slice jP.2.1.1.1
jP.2.1.1.2 jP.2.1.1.2,
slice jP.2.1.2.1.1
jP.2.1.2.1.2
jP.2.1.2.1.2,
slice jP.2.1.2.2.1.1
jP.2.1.2.2.1.2
jP.2.1.2.2.1.2,
slice jP.2.1.2.2.2.1
jP.2.1.2.2.2.2
jP.2.1.2.2.2.2,
int i64 jP.2.2.1,
int i64 jP.2.2.2.1,
int i64 jP.2.2.2.2] ∧
fy jP mR) ∧
∀
(dA :
(Int×Nat×Int×Int) ×
((Option (Nat×Nat)×Nat) ×
(Option (Nat×Nat)×Nat) ×
(Option (Nat×Nat)×Nat)×Option (Nat×Nat)×Nat) ×
Int×Int×Int)
(uR:AH),
fy dA uR →
∃(NC Md:Nat),
(dA.2.1.2.2.1.1=some (NC,Md) ∧
(0:Int)≤dA.2.2.2.2 ∧
dA.2.2.2.2<(↑dA.2.1.2.2.1.2:Int)) ∧
∃(b4 b5 b6 b7:Bool),
∃(fO:Int),
(X none).bP uR NC
(Md+dA.2.2.2.2.toNat*5)
5 =
some
[bool b4,bool b5,bool b6,bool b7,
int i64 fO] ∧
∃(Mc Mb:Nat),
(dA.2.1.2.2.2.1=some (Mc,Mb) ∧
(0:Int)≤dA.2.2.2.2 ∧
dA.2.2.2.2 <
(↑dA.2.1.2.2.2.2:Int)) ∧
∃(b8 b9 yV CW:Bool),
∃(iL:Int),
(X none).bP uR Mc
(Mb +
dA.2.2.2.2.toNat *
5)
5 =
some
[bool b8,bool b9,
bool yV,bool CW,
int i64 iL] ∧
bif
!(b4 == b8 &&
(b5 == b9 &&
(b6 == yV &&
(b7 == CW &&
(fO == iL &&
true))))) then
∃(fN :
(Int×Nat×Int×Int) ×
((Option (Nat×Nat)×Nat) ×
(Option (Nat×Nat)×Nat) ×
(Option (Nat×Nat) ×
Nat) ×
Option (Nat×Nat) ×
Nat) ×
Int×Int×Int),
∃(_k47:Nat),
True ∧
[int i64
dA.1.1,
ptr
(some
(dA.1.2.1,
0)),
int i64
dA.1.2.2.1,
int i64
dA.1.2.2.2,
slice
dA.2.1.1.1
dA.2.1.1.2
dA.2.1.1.2,
slice
dA.2.1.2.1.1
dA.2.1.2.1.2
dA.2.1.2.1.2,
slice
dA.2.1.2.2.1.1
dA.2.1.2.2.1.2
dA.2.1.2.2.1.2,
slice
dA.2.1.2.2.2.1
dA.2.1.2.2.2.2
dA.2.1.2.2.2.2,
int i64
dA.2.2.1,
int i64
((X none).wrap
i64
(dA.2.2.2.1 +
(1:Int))),
int i64
dA.2.2.2.2] =
[int i64
fN.1.1,
ptr
(some
(fN.1.2.1,
0)),
int i64
fN.1.2.2.1,
int i64
fN.1.2.2.2,
slice
fN.2.1.1.1
fN.2.1.1.2
fN.2.1.1.2,
slice
fN.2.1.2.1.1
fN.2.1.2.1.2
fN.2.1.2.1.2,
slice
fN.2.1.2.2.1.1
fN.2.1.2.2.1.2
fN.2.1.2.2.1.2,
slice
fN.2.1.2.2.2.1
fN.2.1.2.2.2.2
fN.2.1.2.2.2.2,
int i64
fN.2.2.1,
int i64
fN.2.2.2.1,
int i64
fN.2.2.2.2] ∧
uJ fN uR
else
∃(fu :
(Int×Nat×Int×Int) ×
((Option (Nat×Nat)×Nat) ×
(Option (Nat×Nat)×Nat) ×
(Option (Nat×Nat) ×
Nat) ×
Option (Nat×Nat) ×
Nat) ×
Int×Int×Int),
∃(_k48:Nat),
True ∧
[int i64
dA.1.1,
ptr
(some
(dA.1.2.1,
0)),
int i64
dA.1.2.2.1,
int i64
dA.1.2.2.2,
slice
dA.2.1.1.1
dA.2.1.1.2
dA.2.1.1.2,
slice
dA.2.1.2.1.1
dA.2.1.2.1.2
dA.2.1.2.1.2,
slice
dA.2.1.2.2.1.1
dA.2.1.2.2.1.2
dA.2.1.2.2.1.2,
slice
dA.2.1.2.2.2.1
dA.2.1.2.2.2.2
dA.2.1.2.2.2.2,
int i64
dA.2.2.1,
int i64
dA.2.2.2.1,
int i64
dA.2.2.2.2] =
[int i64
fu.1.1,
ptr
(some
(fu.1.2.1,
0)),
int i64
fu.1.2.2.1,
int i64
fu.1.2.2.2,
slice
fu.2.1.1.1
fu.2.1.1.2
fu.2.1.1.2,
slice
fu.2.1.2.1.1
fu.2.1.2.1.2
fu.2.1.2.1.2,
slice
fu.2.1.2.2.1.1
fu.2.1.2.2.1.2
fu.2.1.2.2.1.2,
slice
fu.2.1.2.2.2.1
fu.2.1.2.2.2.2
fu.2.1.2.2.2.2,
int i64
fu.2.2.1,
int i64
fu.2.2.2.1,
int i64
fu.2.2.2.2] ∧
uJ fu uR) ∧
∀
(fQ :
(Int×Nat×Int×Int) ×
((Option (Nat×Nat)×Nat) ×
(Option (Nat×Nat)×Nat) ×
(Option (Nat×Nat)×Nat)×Option (Nat×Nat)×Nat) ×
Int×Int×Int)
(mU:AH),
uJ fQ mU →
∃(cY :
(Int×Nat×Int×Int) ×
((Option (Nat×Nat)×Nat) ×
(Option (Nat×Nat)×Nat) ×
(Option (Nat×Nat)×Nat)×Option (Nat×Nat)×Nat) ×
Int×Int×Int),
∃(Se:Nat),
Se<Fe ∧
[int i64 fQ.1.1,
ptr (some (fQ.1.2.1,0)),
int i64 fQ.1.2.2.1,
int i64 fQ.1.2.2.2,
slice fQ.2.1.1.1 fQ.2.1.1.2
fQ.2.1.1.2,
slice fQ.2.1.2.1.1 fQ.2.1.2.1.2
fQ.2.1.2.1.2,
slice fQ.2.1.2.2.1.1 fQ.2.1.2.2.1.2
fQ.2.1.2.2.1.2,
slice fQ.2.1.2.2.2.1 fQ.2.1.2.2.2.2
fQ.2.1.2.2.2.2,
int i64 fQ.2.2.1,
int i64 fQ.2.2.2.1,
int i64
((X none).wrap i64 (fQ.2.2.2.2+(1:Int)))] =
[int i64 cY.1.1,
ptr (some (cY.1.2.1,0)),
int i64 cY.1.2.2.1,
int i64 cY.1.2.2.2,
slice cY.2.1.1.1 cY.2.1.1.2
cY.2.1.1.2,
slice cY.2.1.2.1.1 cY.2.1.2.1.2
cY.2.1.2.1.2,
slice cY.2.1.2.2.1.1 cY.2.1.2.2.1.2
cY.2.1.2.2.1.2,
slice cY.2.1.2.2.2.1 cY.2.1.2.2.2.2
cY.2.1.2.2.2.2,
int i64 cY.2.2.1,
int i64 cY.2.2.2.1,
int i64 cY.2.2.2.2] ∧
jT cY mU Se
else
bif
bD.2.2.1 != bD.1.2.2.1 ||
bD.2.2.2.1 != bD.1.2.2.2 then
Q (bool false) mR
else
∃(OH:List UInt8),
∃(PD:Option (Nat×Nat)),
∃(PZ PY:Nat),
(X none).bP mR bD.1.2.1 0 2 =
some [str OH,slice PD PZ PY] ∧
(X none).call 20
[int i64 bD.1.1,
agg [str OH,slice PD PZ PY],bool false]
mR fun (v7:AV) (vl:AH) =>
∃(vw:List UInt8),
∃(Nn:Option (Nat×Nat)),
∃(OL TF:Nat),
∃(kI jQ kX mS:Int),
v7 =
tuple
[agg [str vw,slice Nn OL TF],
int i64 kI,int i64 jQ,
int i64 kX,
int i64 mS] ∧
[str vw,slice Nn OL TF].length =
2 ∧
∃(Bj:AH),
(X none).wr
((X none).al vl
(cells
[str [],
slice none 0 0]
26 { whole:=true }))
((X none).n vl) 0
[str vw,slice Nn OL TF] =
some Bj ∧
bif mS != (0:Int) then
Q (bool (mS == (2:Int))) Bj
else
Q
(bool
(kI == bD.1.2.2.1 &&
decide (jQ≥(0:Int)) &&
decide
(jQ≤(↑bD.2.1.1.2:Int))))
Bj))):=by kernel_rfl
end Go.Proofs.YtlkdhhkncoekgaaDoor
