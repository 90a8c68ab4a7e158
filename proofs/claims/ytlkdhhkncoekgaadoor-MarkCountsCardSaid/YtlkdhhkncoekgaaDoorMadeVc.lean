/- What functions ask (printed). -/
import Derived.Test.YtlkdhhkncoekgaaDoorAmTri
import Derived.Test.YtlkdhhkncoekgaaDoorTabs
namespace Go.Proofs.YtlkdhhkncoekgaaDoor
open Go.Am Go
open _root_.Go.Am.AV (int slice ptr str bool agg tuple)
open _root_.Go.IntKind (i64 i32 u8 u64)
open _root_.Go.Am.aS (cells)
theorem HJ (X:Option Nat→aN) (It:FuncId→List AV→List AV→(AH→Prop)→List (List AV)→Prop) (q:Option (Nat×Nat)) (k:Nat) (H:AH) (Q:AV→AH→Prop):(oh X It Tryd.prog [⟨4,Int×(Option (Nat×Nat)×Nat)×(Option (Nat×Nat)×Nat),[0,3,4,5],fun x=>[.slice q k k,.slice x.2.1.1 x.2.1.2 x.2.1.2,.slice x.2.2.1 x.2.2.2 x.2.2.2,.int .i64 x.1],fun _ _ _=>True⟩,⟨8,(Int×(Option (Nat×Nat)×Nat)×(Option (Nat×Nat)×Nat))×Int×Int,[0,3,4,5,6,7],fun x=>[.slice q k k,.slice x.1.2.1.1 x.1.2.1.2 x.1.2.1.2,.slice x.1.2.2.1 x.1.2.2.2 x.1.2.2.2,.int .i64 x.1.1,.int .i64 x.2.1,.int .i64 x.2.2],fun _ _ _=>True⟩,⟨11,((Int×(Option (Nat×Nat)×Nat)×(Option (Nat×Nat)×Nat))×Int×Int)×Int×Int,[0,3,4,5,6,7,8,9],fun x=>[.slice q k k,.slice x.1.1.2.1.1 x.1.1.2.1.2 x.1.1.2.1.2,.slice x.1.1.2.2.1 x.1.1.2.2.2 x.1.1.2.2.2,.int .i64 x.1.1.1,.int .i64 x.1.2.1,.int .i64 x.1.2.2,.int .i64 x.2.1,.int .i64 x.2.2],fun _ _ _=>True⟩,⟨200013,((Int×(Option (Nat×Nat)×Nat)×(Option (Nat×Nat)×Nat))×Int×Int)×Int×Int,[0,3,4,5,6,7,8,9],fun x=>[.slice q k k,.slice x.1.1.2.1.1 x.1.1.2.1.2 x.1.1.2.1.2,.slice x.1.1.2.2.1 x.1.1.2.2.2 x.1.1.2.2.2,.int .i64 x.1.1.1,.int .i64 x.1.2.1,.int .i64 x.1.2.2,.int .i64 x.2.1,.int .i64 x.2.2],fun _ _ _=>True⟩,⟨200017,((Int×(Option (Nat×Nat)×Nat)×(Option (Nat×Nat)×Nat))×Int×Int)×Nat,[0,3,4,5,6,9,10],fun x=>[.slice q k k,.slice x.1.1.2.1.1 x.1.1.2.1.2 x.1.1.2.1.2,.slice x.1.1.2.2.1 x.1.1.2.2.2 x.1.1.2.2.2,.int .i64 x.1.1.1,.int .i64 x.1.2.1,.int .i64 x.1.2.2,.ptr (some (x.2,0))],fun _ _ _=>True⟩,⟨200018,(Int×(Option (Nat×Nat)×Nat)×(Option (Nat×Nat)×Nat))×Int×Int,[0,3,4,5,6,9],fun x=>[.slice q k k,.slice x.1.2.1.1 x.1.2.1.2 x.1.2.1.2,.slice x.1.2.2.1 x.1.2.2.2 x.1.2.2.2,.int .i64 x.1.1,.int .i64 x.2.1,.int .i64 x.2.2],fun _ _ _=>True⟩,⟨20,(Int×(Option (Nat×Nat)×Nat)×(Option (Nat×Nat)×Nat))×(Option (Nat×Nat)×Nat×Nat)×Int×Int,[0,3,4,5,76,77,78],fun x=>[.slice q k k,.slice x.1.2.1.1 x.1.2.1.2 x.1.2.1.2,.slice x.1.2.2.1 x.1.2.2.2 x.1.2.2.2,.int .i64 x.1.1,.slice x.2.1.1 x.2.1.2.1 x.2.1.2.2,.int .i64 x.2.2.1,.int .i64 x.2.2.2],fun _ _ _=>True⟩] [] 93 [.slice q k k] H Q) =
(∃(q1:Option (Nat×Nat)),
∃(k1 k2:Nat),
∃(H1:AH),
(X none).PS (129:Nat) ((X none).wrap i64 ((↑k:Int)+(1:Int))) ((X none).wrap i64 ((↑k:Int)+(1:Int))) H=some (slice q1 k1 k2,H1) ∧
∃(x1:Int×(Option (Nat×Nat)×Nat)×Option (Nat×Nat)×Nat→AH→Nat→Prop),
(∃(x2:Int×(Option (Nat×Nat)×Nat)×Option (Nat×Nat)×Nat),
∃(k3:Nat),
[slice q k k,slice q1 k1 k2,slice none 0 0,int i64 1] =
[slice q k k,slice x2.2.1.1 x2.2.1.2 x2.2.1.2,slice x2.2.2.1 x2.2.2.2 x2.2.2.2,int i64 x2.1] ∧
x1 x2 H1 k3) ∧
∀(x3:Int×(Option (Nat×Nat)×Nat)×Option (Nat×Nat)×Nat) (H2:AH) (k4:Nat),
x1 x3 H2 k4 →
bif decide (x3.1≤(5:Int)) then
∃(x4:(Int×(Option (Nat×Nat)×Nat)×Option (Nat×Nat)×Nat)×Int×Int→AH→Nat→Prop),
(∃(x5:(Int×(Option (Nat×Nat)×Nat)×Option (Nat×Nat)×Nat)×Int×Int),
∃(k5:Nat),
[slice q k k,slice x3.2.1.1 x3.2.1.2 x3.2.1.2,slice x3.2.2.1 x3.2.2.2 x3.2.2.2,int i64 x3.1,int i64 (↑x3.2.2.2:Int),
int i64 0] =
[slice q k k,slice x5.1.2.1.1 x5.1.2.1.2 x5.1.2.1.2,slice x5.1.2.2.1 x5.1.2.2.2 x5.1.2.2.2,int i64 x5.1.1,
int i64 x5.2.1,int i64 x5.2.2] ∧
x4 x5 H2 k5) ∧
∀(x6:(Int×(Option (Nat×Nat)×Nat)×Option (Nat×Nat)×Nat)×Int×Int) (H3:AH) (k6:Nat),
x4 x6 H3 k6 →
bif decide (x6.2.2<(↑k:Int)) then
∃(k7 k8:Nat),
(q=some (k7,k8)∧(0:Int)≤x6.2.2∧x6.2.2<(↑k:Int)) ∧
∃(b1 b2 b3 b4:Bool),
∃(n1:Int),
(X none).bP H3 k7 (k8+x6.2.2.toNat*5) 5=some [bool b1,bool b2,bool b3,bool b4,int i64 n1] ∧
(X none).call 110 [agg [bool b1,bool b2,bool b3,bool b4,int i64 n1],int i64 x6.1.1] H3 fun (v1:AV) (H4:AH) =>
∃(n2:Int),
v1=int i64 n2 ∧
∃(x7:((Int×(Option (Nat×Nat)×Nat)×Option (Nat×Nat)×Nat)×Int×Int)×Int×Int→AH→Prop),
(∃(x8:((Int×(Option (Nat×Nat)×Nat)×Option (Nat×Nat)×Nat)×Int×Int)×Int×Int→AH→Nat→Prop),
(∃(x9:((Int×(Option (Nat×Nat)×Nat)×Option (Nat×Nat)×Nat)×Int×Int)×Int×Int),
∃(k9:Nat),
[slice q k k,slice x6.1.2.1.1 x6.1.2.1.2 x6.1.2.1.2,slice x6.1.2.2.1 x6.1.2.2.2 x6.1.2.2.2,
int i64 x6.1.1,int i64 x6.2.1,int i64 x6.2.2,int i64 n2,
int i64 ((X none).wrap i64 (x6.2.2+(1:Int)))] =
[slice q k k,slice x9.1.1.2.1.1 x9.1.1.2.1.2 x9.1.1.2.1.2,
slice x9.1.1.2.2.1 x9.1.1.2.2.2 x9.1.1.2.2.2,int i64 x9.1.1.1,int i64 x9.1.2.1,
int i64 x9.1.2.2,int i64 x9.2.1,int i64 x9.2.2] ∧
x8 x9 H4 k9) ∧
∀(bW:((Int×(Option (Nat×Nat)×Nat)×Option (Nat×Nat)×Nat)×Int×Int)×Int×Int) (H5:AH) (nO:Nat),
x8 bW H5 nO →
∃(gQ mF:Nat),
((decide (bW.2.2<(↑k:Int)) == true)=true→q=some (gQ,mF)∧(0:Int)≤bW.2.2∧bW.2.2<(↑k:Int)) ∧
∃(b5 b6 b7 b8:Bool),
∃(n3:Int),
((decide (bW.2.2<(↑k:Int)) == true)=true →
(X none).bP H5 gQ (mF+bW.2.2.toNat*5) 5=some [bool b5,bool b6,bool b7,bool b8,int i64 n3]) ∧
bif decide (bW.2.2<(↑k:Int)) == true then
(X none).call 110 [agg [bool b5,bool b6,bool b7,bool b8,int i64 n3],int i64 bW.1.1.1] H5
fun (v2:AV) (H6:AH) =>
∃(n4:Int),
v2=int i64 n4 ∧
∃(nN kQ:Nat),
(((n4 == bW.2.1) == true)=true →
bW.1.1.2.1.1=some (nN,kQ)∧(0:Int)≤bW.2.2∧bW.2.2<(↑bW.1.1.2.1.2:Int)) ∧
∃(b9:Bool),
(((n4 == bW.2.1) == true)=true→(X none).aM H6 nN (kQ+bW.2.2.toNat*1)=some (bool b9)) ∧
bif n4 == bW.2.1 && !b9 then
∃(dB:((Int×(Option (Nat×Nat)×Nat)×Option (Nat×Nat)×Nat)×Int×Int)×Int×Int),
∃(nh:Nat),
nh<nO ∧
[slice q k k,slice bW.1.1.2.1.1 bW.1.1.2.1.2 bW.1.1.2.1.2,
slice bW.1.1.2.2.1 bW.1.1.2.2.2 bW.1.1.2.2.2,int i64 bW.1.1.1,
int i64 bW.1.2.1,int i64 bW.1.2.2,int i64 bW.2.1,
int i64 ((X none).wrap i64 (bW.2.2+(1:Int)))] =
[slice q k k,slice dB.1.1.2.1.1 dB.1.1.2.1.2 dB.1.1.2.1.2,
slice dB.1.1.2.2.1 dB.1.1.2.2.2 dB.1.1.2.2.2,int i64 dB.1.1.1,
int i64 dB.1.2.1,int i64 dB.1.2.2,int i64 dB.2.1,
int i64 dB.2.2] ∧
x8 dB H6 nh
else
∃(eD:((Int×(Option (Nat×Nat)×Nat)×Option (Nat×Nat)×Nat)×Int×Int)×Int×Int),
∃(_k16:Nat),
True ∧
[slice q k k,slice bW.1.1.2.1.1 bW.1.1.2.1.2 bW.1.1.2.1.2,
slice bW.1.1.2.2.1 bW.1.1.2.2.2 bW.1.1.2.2.2,int i64 bW.1.1.1,
int i64 bW.1.2.1,int i64 bW.1.2.2,int i64 bW.2.1,
int i64 bW.2.2] =
[slice q k k,slice eD.1.1.2.1.1 eD.1.1.2.1.2 eD.1.1.2.1.2,
slice eD.1.1.2.2.1 eD.1.1.2.2.2 eD.1.1.2.2.2,int i64 eD.1.1.1,
int i64 eD.1.2.1,int i64 eD.1.2.2,int i64 eD.2.1,
int i64 eD.2.2] ∧
x7 eD H6
else
∃(kP oV:Nat),
(false=true→bW.1.1.2.1.1=some (kP,oV)∧(0:Int)≤bW.2.2∧bW.2.2<(↑bW.1.1.2.1.2:Int)) ∧
∃(yV:Bool),
(false=true→(X none).aM H5 kP (oV+bW.2.2.toNat*1)=some (bool yV)) ∧
∃(jT:((Int×(Option (Nat×Nat)×Nat)×Option (Nat×Nat)×Nat)×Int×Int)×Int×Int),
∃(_k19:Nat),
True ∧
[slice q k k,slice bW.1.1.2.1.1 bW.1.1.2.1.2 bW.1.1.2.1.2,
slice bW.1.1.2.2.1 bW.1.1.2.2.2 bW.1.1.2.2.2,int i64 bW.1.1.1,
int i64 bW.1.2.1,int i64 bW.1.2.2,int i64 bW.2.1,
int i64 bW.2.2] =
[slice q k k,slice jT.1.1.2.1.1 jT.1.1.2.1.2 jT.1.1.2.1.2,
slice jT.1.1.2.2.1 jT.1.1.2.2.2 jT.1.1.2.2.2,int i64 jT.1.1.1,
int i64 jT.1.2.1,int i64 jT.1.2.2,int i64 jT.2.1,
int i64 jT.2.2] ∧
x7 jT H5) ∧
∀(cQ:((Int×(Option (Nat×Nat)×Nat)×Option (Nat×Nat)×Nat)×Int×Int)×Int×Int) (H7:AH),
x7 cQ H7 →
∃(bD:(Int×(Option (Nat×Nat)×Nat)×Option (Nat×Nat)×Nat)×Int×Int→AH→Prop),
(bif cQ.2.1 != (0:Int) then
[int i64 cQ.1.2.2,int i64 cQ.2.2,int i64 cQ.1.1.1,int i64 0].length=4 ∧
∃(H8:AH),
(X none).wr
((X none).al H7
(cells [int i64 0,int i64 0,int i64 0,int i64 0] 41
{ whole:=true }))
((X none).n H7) 0 [int i64 cQ.1.2.2,int i64 cQ.2.2,int i64 cQ.1.1.1,int i64 0] =
some H8 ∧
∃(uJ:((Int×(Option (Nat×Nat)×Nat)×Option (Nat×Nat)×Nat)×Int×Int)×Nat→AH→Prop),
(bif cQ.1.1.1 == (5:Int) then
[int i64 ((X none).wrap i64 (cQ.2.1 - (1:Int)))].length=1 ∧
∃(H9:AH),
(X none).wr H8 ((X none).n H7) 3 [int i64 ((X none).wrap i64 (cQ.2.1 - (1:Int)))]=some H9 ∧
∃(fy:((Int×(Option (Nat×Nat)×Nat)×Option (Nat×Nat)×Nat)×Int×Int)×Nat),
∃(_k20:Nat),
True ∧
[slice q k k,slice cQ.1.1.2.1.1 cQ.1.1.2.1.2 cQ.1.1.2.1.2,
slice cQ.1.1.2.2.1 cQ.1.1.2.2.2 cQ.1.1.2.2.2,int i64 cQ.1.1.1,
int i64 cQ.1.2.1,int i64 cQ.2.2,ptr (some ((X none).n H7,0))] =
[slice q k k,slice fy.1.1.2.1.1 fy.1.1.2.1.2 fy.1.1.2.1.2,
slice fy.1.1.2.2.1 fy.1.1.2.2.2 fy.1.1.2.2.2,int i64 fy.1.1.1,
int i64 fy.1.2.1,int i64 fy.1.2.2,ptr (some (fy.2,0))] ∧
uJ fy H9
else
∃(bR:((Int×(Option (Nat×Nat)×Nat)×Option (Nat×Nat)×Nat)×Int×Int)×Nat),
∃(_k21:Nat),
True ∧
[slice q k k,slice cQ.1.1.2.1.1 cQ.1.1.2.1.2 cQ.1.1.2.1.2,
slice cQ.1.1.2.2.1 cQ.1.1.2.2.2 cQ.1.1.2.2.2,int i64 cQ.1.1.1,
int i64 cQ.1.2.1,int i64 cQ.2.2,ptr (some ((X none).n H7,0))] =
[slice q k k,slice bR.1.1.2.1.1 bR.1.1.2.1.2 bR.1.1.2.1.2,
slice bR.1.1.2.2.1 bR.1.1.2.2.2 bR.1.1.2.2.2,int i64 bR.1.1.1,
int i64 bR.1.2.1,int i64 bR.1.2.2,ptr (some (bR.2,0))] ∧
uJ bR H8) ∧
∀(jP:((Int×(Option (Nat×Nat)×Nat)×Option (Nat×Nat)×Nat)×Int×Int)×Nat) (kN:AH),
uJ jP kN →
∃(n5 n6 n7 n8:Int),
(X none).bP kN jP.2 0 4=some [int i64 n5,int i64 n6,int i64 n7,int i64 n8] ∧
(4≤16777216∧4=4∧0<4∧true=true∧true=true) ∧
∃(q2:Option (Nat×Nat)),
∃(qQ qP:Nat),
∃(oe:AH),
(X none).app 24 24 (slice jP.1.1.2.2.1 jP.1.1.2.2.2 jP.1.1.2.2.2)
(slice (some ((X none).n kN,0)) 1 1)
((X none).al kN
(cells [int i64 n5,int i64 n6,int i64 n7,int i64 n8] 41
{ whole:=true })) =
some (slice q2 qQ qP,oe) ∧
∃(dA:(Int×(Option (Nat×Nat)×Nat)×Option (Nat×Nat)×Nat)×Int×Int),
∃(_k24:Nat),
True ∧
[slice q k k,slice jP.1.1.2.1.1 jP.1.1.2.1.2 jP.1.1.2.1.2,slice q2 qQ qP,
int i64 jP.1.1.1,int i64 jP.1.2.1,int i64 jP.1.2.2] =
[slice q k k,slice dA.1.2.1.1 dA.1.2.1.2 dA.1.2.1.2,
slice dA.1.2.2.1 dA.1.2.2.2 dA.1.2.2.2,int i64 dA.1.1,
int i64 dA.2.1,int i64 dA.2.2] ∧
bD dA oe
else
∃(fN:(Int×(Option (Nat×Nat)×Nat)×Option (Nat×Nat)×Nat)×Int×Int),
∃(_k25:Nat),
True ∧
[slice q k k,slice cQ.1.1.2.1.1 cQ.1.1.2.1.2 cQ.1.1.2.1.2,
slice cQ.1.1.2.2.1 cQ.1.1.2.2.2 cQ.1.1.2.2.2,int i64 cQ.1.1.1,int i64 cQ.1.2.1,
int i64 cQ.2.2] =
[slice q k k,slice fN.1.2.1.1 fN.1.2.1.2 fN.1.2.1.2,slice fN.1.2.2.1 fN.1.2.2.2 fN.1.2.2.2,
int i64 fN.1.1,int i64 fN.2.1,int i64 fN.2.2] ∧
bD fN H7) ∧
∀(fu:(Int×(Option (Nat×Nat)×Nat)×Option (Nat×Nat)×Nat)×Int×Int) (uS:AH),
bD fu uS →
∃(fQ:(Int×(Option (Nat×Nat)×Nat)×Option (Nat×Nat)×Nat)×Int×Int),
∃(Ak:Nat),
Ak<k6 ∧
[slice q k k,slice fu.1.2.1.1 fu.1.2.1.2 fu.1.2.1.2,slice fu.1.2.2.1 fu.1.2.2.2 fu.1.2.2.2,
int i64 fu.1.1,int i64 fu.2.1,int i64 fu.2.2] =
[slice q k k,slice fQ.1.2.1.1 fQ.1.2.1.2 fQ.1.2.1.2,slice fQ.1.2.2.1 fQ.1.2.2.2 fQ.1.2.2.2,
int i64 fQ.1.1,int i64 fQ.2.1,int i64 fQ.2.2] ∧
x4 fQ uS Ak
else
∃(q3:Option (Nat×Nat)),
∃(vU Cj:Nat),
(X none).JS 24 (slice x6.1.2.2.1 x6.1.2.2.2 x6.1.2.2.2) (some (int i64 x6.2.1)) none none H3=some (slice q3 vU Cj) ∧
∃(cY:(Int×(Option (Nat×Nat)×Nat)×Option (Nat×Nat)×Nat)×(Option (Nat×Nat)×Nat×Nat)×Int×Int→AH→Nat→Prop),
(∃(c9:(Int×(Option (Nat×Nat)×Nat)×Option (Nat×Nat)×Nat)×(Option (Nat×Nat)×Nat×Nat)×Int×Int),
∃(Gd:Nat),
[slice q k k,slice x6.1.2.1.1 x6.1.2.1.2 x6.1.2.1.2,slice x6.1.2.2.1 x6.1.2.2.2 x6.1.2.2.2,int i64 x6.1.1,
slice q3 vU Cj,int i64 (↑vU:Int),int i64 0] =
[slice q k k,slice c9.1.2.1.1 c9.1.2.1.2 c9.1.2.1.2,slice c9.1.2.2.1 c9.1.2.2.2 c9.1.2.2.2,int i64 c9.1.1,
slice c9.2.1.1 c9.2.1.2.1 c9.2.1.2.2,int i64 c9.2.2.1,int i64 c9.2.2.2] ∧
cY c9 H3 Gd) ∧
∀(fP:(Int×(Option (Nat×Nat)×Nat)×Option (Nat×Nat)×Nat)×(Option (Nat×Nat)×Nat×Nat)×Int×Int) (mR:AH) (Fe:Nat),
cY fP mR Fe →
bif decide (fP.2.2.2<fP.2.2.1) then
∃(HU HT:Nat),
(fP.2.1.1=some (HU,HT)∧(0:Int)≤fP.2.2.2∧fP.2.2.2<(↑fP.2.1.2.1:Int)) ∧
∃(n9 fO iL kI:Int),
(X none).bP mR HU (HT+fP.2.2.2.toNat*4) 4=some [int i64 n9,int i64 fO,int i64 iL,int i64 kI] ∧
[int i64 n9,int i64 fO,int i64 iL,int i64 kI].length=4 ∧
∃(uR:AH),
(X none).wr
((X none).al mR
(cells [int i64 0,int i64 0,int i64 0,int i64 0] 41 { whole:=true }))
((X none).n mR) 0 [int i64 n9,int i64 fO,int i64 iL,int i64 kI] =
some uR ∧
∃(jQ:Int),
(X none).aM uR ((X none).n mR) 0=some (int i64 jQ) ∧
∃(kX:Int),
(X none).aM uR ((X none).n mR) 1=some (int i64 kX) ∧
∃(HS HQ:Nat),
(fP.1.2.1.1=some (HS,HQ)∧(0:Int)≤jQ∧jQ<(↑fP.1.2.1.2:Int)) ∧
1=1 ∧
∃(mU:AH),
(X none).wr uR HS (HQ+jQ.toNat*1) [bool true]=some mU ∧
(∃(mS:Int),(X none).aM mU ((X none).n mR) 1=some (int i64 mS)∧int i64 mS=int i64 kX) ∧
∃(Gc Gb:Nat),
(fP.1.2.1.1=some (Gc,Gb)∧(0:Int)≤kX∧kX<(↑fP.1.2.1.2:Int)) ∧
1=1 ∧
∃(vl:AH),
(X none).wr mU Gc (Gb+kX.toNat*1) [bool true]=some vl ∧
∃(jS:(Int×(Option (Nat×Nat)×Nat)×Option (Nat×Nat)×Nat)×(Option (Nat×Nat)×Nat×Nat)×Int×Int),
∃(Mf:Nat),
Mf<Fe ∧
[slice q k k,slice fP.1.2.1.1 fP.1.2.1.2 fP.1.2.1.2,
slice fP.1.2.2.1 fP.1.2.2.2 fP.1.2.2.2,int i64 fP.1.1,
slice fP.2.1.1 fP.2.1.2.1 fP.2.1.2.2,int i64 fP.2.2.1,
int i64 ((X none).wrap i64 (fP.2.2.2+(1:Int)))] =
[slice q k k,slice jS.1.2.1.1 jS.1.2.1.2 jS.1.2.1.2,
slice jS.1.2.2.1 jS.1.2.2.2 jS.1.2.2.2,int i64 jS.1.1,
slice jS.2.1.1 jS.2.1.2.1 jS.2.1.2.2,int i64 jS.2.2.1,
int i64 jS.2.2.2] ∧
cY jS vl Mf
else
∃(nx:Int×(Option (Nat×Nat)×Nat)×Option (Nat×Nat)×Nat),
∃(Me:Nat),
Me<k4 ∧
[slice q k k,slice fP.1.2.1.1 fP.1.2.1.2 fP.1.2.1.2,slice fP.1.2.2.1 fP.1.2.2.2 fP.1.2.2.2,
int i64 ((X none).wrap i64 (fP.1.1+(1:Int)))] =
[slice q k k,slice nx.2.1.1 nx.2.1.2 nx.2.1.2,slice nx.2.2.1 nx.2.2.2 nx.2.2.2,int i64 nx.1] ∧
x1 nx mR Me
else (X none).call 99 [slice x3.2.2.1 x3.2.2.2 x3.2.2.2,AV.func (Fn.func 111) [] []] H2 fun (_v3:AV) (Bj:AH)=>Q (slice x3.2.2.1 x3.2.2.2 x3.2.2.2) Bj):=by kernel_rfl
theorem HO (X:aN) (q:Option (Nat×Nat)) (k c:Nat) (H:AH) (Q:AV→AH→Prop) (I1:Int×Option (Nat×Nat)×Nat→AH→Nat→Prop) (I2:Int×(Option (Nat×Nat)×Nat)×(Option (Nat×Nat)×Nat)→AH→Nat→Prop):(gP X Tryd.prog [⟨3,Int×Option (Nat×Nat)×Nat,[0,2,3,4,11,12,13],fun x=>[.slice q k c,.ptr (some (X.n H,0)),.int .i64 0,.slice x.2.1 x.2.2 x.2.2,.slice q k c,.int .i64 k,.int .i64 x.1],I1⟩,⟨11,Int×(Option (Nat×Nat)×Nat)×(Option (Nat×Nat)×Nat),[2,3,4,7,30,31,32],fun x=>[.ptr (some (X.n H,0)),.int .i64 0,.slice x.2.1.1 x.2.1.2 x.2.1.2,.slice x.2.2.1 x.2.2.2 x.2.2.2,.slice q k c,.int .i64 k,.int .i64 x.1],I2⟩] 30 [.slice q k c] H Q) =
((∃(x1:Int×Option (Nat×Nat)×Nat),
∃(k1:Nat),
[slice q k c,ptr (some (X.n H,(0:Nat))),int i64 0,slice none (0:Nat) (0:Nat),slice q k c,int i64 (↑k:Int),int i64 0] =
[slice q k c,ptr (some (X.n H,(0:Nat))),int i64 0,slice x1.2.1 x1.2.2 x1.2.2,slice q k c,int i64 (↑k:Int),int i64 x1.1] ∧
I1 x1 (X.al H (cells [str [],slice none 0 0] 26 { whole:=true })) k1) ∧
∀(x2:Int×Option (Nat×Nat)×Nat) (H1:AH) (k2:Nat),
I1 x2 H1 k2 →
bif decide (x2.1<(↑k:Int)) then
∃(k3 k4:Nat),
(q=some (k3,k4)∧(0:Int)≤x2.1∧x2.1<(↑k:Int)) ∧
∃(s1:List UInt8),
∃(b1 b2 b3 b4:Bool),
∃(n1:Int),
X.bP H1 k3 (k4+x2.1.toNat*6) 6=some [str s1,bool b1,bool b2,bool b3,bool b4,int i64 n1] ∧
[str s1,bool b1,bool b2,bool b3,bool b4,int i64 n1].length=6 ∧
∃(H2:AH),
X.wr (X.al H1 (cells [str [],bool false,bool false,bool false,bool false,int i64 0] 79 { whole:=true })) (X.n H1) 0
[str s1,bool b1,bool b2,bool b3,bool b4,int i64 n1] =
some H2 ∧
∃(s2:List UInt8),
X.aM H2 (X.n H1) 0=some (str s2) ∧
bif decide (X.wrap i64 ((↑x2.2.2:Int)+(↑s2.length:Int)) > (4096:Int)) then
[str [],slice none 0 0].length=2 ∧
∃(H3:AH),
X.wr H2 (X.n H) 0 [str [],slice none 0 0]=some H3 ∧
∃(s3:List UInt8),
∃(q1:Option (Nat×Nat)),
∃(k5:Nat),∃(k6:Nat),X.bP H3 (X.n H) 0 2=some [str s3,slice q1 k5 k6]∧Q (tuple [agg [str s3,slice q1 k5 k6],int i64 3]) H3
else
∃(s4:List UInt8),
X.aM H2 (X.n H1) 0=some (str s4) ∧
∃(q2:Option (Nat×Nat)),
∃(k7 k8:Nat),
∃(H4:AH),
X.app 39 9 (slice x2.2.1 x2.2.2 x2.2.2) (str s4) H2=some (slice q2 k7 k8,H4) ∧
∃(x3:Int×Option (Nat×Nat)×Nat),
∃(k9:Nat),
k9<k2 ∧
[slice q k c,ptr (some (X.n H,(0:Nat))),int i64 0,slice q2 k7 k8,slice q k c,int i64 (↑k:Int),
int i64 (X.wrap i64 (x2.1+(1:Int)))] =
[slice q k c,ptr (some (X.n H,(0:Nat))),int i64 0,slice x3.2.1 x3.2.2 x3.2.2,slice q k c,int i64 (↑k:Int),
int i64 x3.1] ∧
I1 x3 H4 k9
else
(∃(x4:Int×(Option (Nat×Nat)×Nat)×Option (Nat×Nat)×Nat),
∃(nO:Nat),
[ptr (some (X.n H,(0:Nat))),int i64 0,slice x2.2.1 x2.2.2 x2.2.2,slice none (0:Nat) (0:Nat),slice q k c,int i64 (↑k:Int),int i64 0] =
[ptr (some (X.n H,(0:Nat))),int i64 0,slice x4.2.1.1 x4.2.1.2 x4.2.1.2,slice x4.2.2.1 x4.2.2.2 x4.2.2.2,slice q k c,int i64 (↑k:Int),
int i64 x4.1] ∧
I2 x4 H1 nO) ∧
∀(x5:Int×(Option (Nat×Nat)×Nat)×Option (Nat×Nat)×Nat) (H5:AH) (gQ:Nat),
I2 x5 H5 gQ →
bif decide (x5.1<(↑k:Int)) then
∃(mF nN:Nat),
(q=some (mF,nN)∧(0:Int)≤x5.1∧x5.1<(↑k:Int)) ∧
∃(s5:List UInt8),
∃(b5 b6 b7 b8:Bool),
∃(n2:Int),
X.bP H5 mF (nN+x5.1.toNat*6) 6=some [str s5,bool b5,bool b6,bool b7,bool b8,int i64 n2] ∧
[str s5,bool b5,bool b6,bool b7,bool b8,int i64 n2].length=6 ∧
∃(H6:AH),
X.wr (X.al H5 (cells [str [],bool false,bool false,bool false,bool false,int i64 0] 79 { whole:=true })) (X.n H5) 0
[str s5,bool b5,bool b6,bool b7,bool b8,int i64 n2] =
some H6 ∧
bif decide ((↑x5.2.2.2:Int) > (0:Int)) == true then
∃(kQ nh:Nat),
(x5.2.2.1=some (kQ,nh)∧(0:Int)≤X.wrap i64 ((↑x5.2.2.2:Int) - (1:Int))∧X.wrap i64 ((↑x5.2.2.2:Int) - (1:Int))<(↑x5.2.2.2:Int)) ∧
∃(b9 yV CW Gx:Bool),
∃(n3:Int),
X.bP H6 kQ (nh+(X.wrap i64 ((↑x5.2.2.2:Int) - (1:Int))).toNat*(7:Nat)+(2:Nat)) (5:Nat) =
some [bool b9,bool yV,bool CW,bool Gx,int i64 n3] ∧
∃(Gw LI JI JH:Bool),
∃(n4:Int),
X.bP H6 (X.n H5) 1 5=some [bool Gw,bool LI,bool JI,bool JH,int i64 n4] ∧
bif b9 == Gw && (yV == LI && (CW == JI && (Gx == JH && (n3 == n4 && true)))) then
∃(rJ kP:Nat),
(x5.2.2.1=some (rJ,kP) ∧
(0:Int)≤X.wrap i64 ((↑x5.2.2.2:Int) - (1:Int))∧X.wrap i64 ((↑x5.2.2.2:Int) - (1:Int))<(↑x5.2.2.2:Int)) ∧
∃(n5:Int),
X.aM H6 rJ (kP+(X.wrap i64 ((↑x5.2.2.2:Int) - (1:Int))).toNat*(7:Nat)+(1:Nat))=some (int i64 n5) ∧
∃(oV uN:Nat),
(x5.2.2.1=some (oV,uN) ∧
(0:Int)≤X.wrap i64 ((↑x5.2.2.2:Int) - (1:Int)) ∧
X.wrap i64 ((↑x5.2.2.2:Int) - (1:Int))<(↑x5.2.2.2:Int)) ∧
[int i64 (X.wrap i64 (n5+(1:Int)))].length=1 ∧
∃(H7:AH),
X.wr H6 oV (uN+(X.wrap i64 ((↑x5.2.2.2:Int) - (1:Int))).toNat*(7:Nat)+(1:Nat))
[int i64 (X.wrap i64 (n5+(1:Int)))] =
some H7 ∧
∃(x6:Int×(Option (Nat×Nat)×Nat)×Option (Nat×Nat)×Nat),
∃(Ck:Nat),
Ck<gQ ∧
[ptr (some (X.n H,0)),int i64 0,slice x5.2.1.1 x5.2.1.2 x5.2.1.2,
slice x5.2.2.1 x5.2.2.2 x5.2.2.2,slice q k c,int i64 (↑k:Int),
int i64 (X.wrap i64 (x5.1+(1:Int)))] =
[ptr (some (X.n H,0)),int i64 0,slice x6.2.1.1 x6.2.1.2 x6.2.1.2,
slice x6.2.2.1 x6.2.2.2 x6.2.2.2,slice q k c,int i64 (↑k:Int),int i64 x6.1] ∧
I2 x6 H7 Ck
else
∃(JG JF JE JD:Bool),
∃(n6:Int),
X.bP H6 (X.n H5) 1 5=some [bool JG,bool JF,bool JE,bool JD,int i64 n6] ∧
(7≤16777216∧7=7∧0<7∧true=true∧true=true) ∧
∃(q3:Option (Nat×Nat)),
∃(sk qQ:Nat),
∃(H8:AH),
X.app 107 107 (slice x5.2.2.1 x5.2.2.2 x5.2.2.2)
(slice (some (X.n H6,0)) 1 1)
(X.al H6
(cells
[int i64 x5.1,int i64 (X.wrap i64 (x5.1+(1:Int))),bool JG,bool JF,bool JE,
bool JD,int i64 n6]
109 { whole:=true })) =
some (slice q3 sk qQ,H8) ∧
∃(x7:Int×(Option (Nat×Nat)×Nat)×Option (Nat×Nat)×Nat),
∃(qP:Nat),
qP<gQ ∧
[ptr (some (X.n H,0)),int i64 0,slice x5.2.1.1 x5.2.1.2 x5.2.1.2,
slice q3 sk qQ,slice q k c,int i64 (↑k:Int),
int i64 (X.wrap i64 (x5.1+(1:Int)))] =
[ptr (some (X.n H,0)),int i64 0,slice x7.2.1.1 x7.2.1.2 x7.2.1.2,
slice x7.2.2.1 x7.2.2.2 x7.2.2.2,slice q k c,int i64 (↑k:Int),
int i64 x7.1] ∧
I2 x7 H8 qP
else
∃(JC JB JA Jz:Bool),
∃(n7:Int),
X.bP H6 (X.n H5) 1 5=some [bool JC,bool JB,bool JA,bool Jz,int i64 n7] ∧
(7≤16777216∧7=7∧0<7∧true=true∧true=true) ∧
∃(q4:Option (Nat×Nat)),
∃(sj Dy:Nat),
∃(H9:AH),
X.app 107 107 (slice x5.2.2.1 x5.2.2.2 x5.2.2.2) (slice (some (X.n H6,0)) 1 1)
(X.al H6
(cells
[int i64 x5.1,int i64 (X.wrap i64 (x5.1+(1:Int))),bool JC,bool JB,bool JA,bool Jz,int i64 n7]
109 { whole:=true })) =
some (slice q4 sj Dy,H9) ∧
∃(x8:Int×(Option (Nat×Nat)×Nat)×Option (Nat×Nat)×Nat),
∃(Ak:Nat),
Ak<gQ ∧
[ptr (some (X.n H,0)),int i64 0,slice x5.2.1.1 x5.2.1.2 x5.2.1.2,slice q4 sj Dy,slice q k c,
int i64 (↑k:Int),int i64 (X.wrap i64 (x5.1+(1:Int)))] =
[ptr (some (X.n H,0)),int i64 0,slice x8.2.1.1 x8.2.1.2 x8.2.1.2,
slice x8.2.2.1 x8.2.2.2 x8.2.2.2,slice q k c,int i64 (↑k:Int),int i64 x8.1] ∧
I2 x8 H9 Ak
else
∃(s6:List UInt8),
X.str (slice x5.2.1.1 x5.2.1.2 x5.2.1.2) H5=some s6 ∧
X.call 55 [str s6,slice x5.2.2.1 x5.2.2.2 x5.2.2.2] H5 fun (v1:AV) (kN:AH) =>
∃(s7:List UInt8),
∃(q5:Option (Nat×Nat)),
∃(vU Cj:Nat),
∃(n8:Int),
v1=tuple [agg [str s7,slice q5 vU Cj],int i64 n8] ∧
[str s7,slice q5 vU Cj].length=2 ∧
∃(oe:AH),
X.wr kN (X.n H) 0 [str s7,slice q5 vU Cj]=some oe ∧
∃(s8:List UInt8),
∃(q6:Option (Nat×Nat)),
∃(Gd:Nat),∃(Fe:Nat),X.bP oe (X.n H) 0 2=some [str s8,slice q6 Gd Fe]∧Q (tuple [agg [str s8,slice q6 Gd Fe],int i64 n8]) oe):=by kernel_rfl
end Go.Proofs.YtlkdhhkncoekgaaDoor
