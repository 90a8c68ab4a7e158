/- What functions ask (printed). -/
import Derived.Test.YtlkdhhkncoekgaaDoorAmTri
import Derived.Test.YtlkdhhkncoekgaaDoorTabs
namespace Go.Proofs.YtlkdhhkncoekgaaDoor
open Go.Am Go
open _root_.Go.Am.AV (int slice ptr str bool agg tuple)
open _root_.Go.IntKind (i64 i32 u8 u64)
open _root_.Go.Am.aS (cells)
theorem AG (X:aN) (d:Int) (H:AH) (Q:AV→AH→Prop):(gP X Tryd.prog [] 11 [.int .i64 d] H Q) =
(Q (bool (decide (d≥(1:Int)) && decide (d≤(4:Int)))) H):=by kernel_rfl
theorem BH (X:aN) (c:Int) (H:AH) (Q:AV→AH→Prop):(gP X Tryd.prog [] 78 [.int .i32 c] H Q) =
(bif decide (c<(0:Int)) then Q (int i64 (-1:Int)) H
else
bif decide (c≤(127:Int)) then Q (int i64 1) H
else
bif decide (c≤(2047:Int)) then Q (int i64 2) H
else
bif decide ((55296:Int)≤c) && decide (c≤(57343:Int)) then Q (int i64 (-1:Int)) H
else bif decide (c≤(65535:Int)) then Q (int i64 3) H else bif decide (c≤(1114111:Int)) then Q (int i64 4) H else Q (int i64 (-1:Int)) H):=by kernel_rfl
theorem uY (X:aN) (s t:List UInt8) (H:AH) (Q:AV→AH→Prop):(gP X Tryd.prog [] 53 [.str s,.str t] H Q) =
(((decide ((↑s.length:Int)≥(↑t.length:Int)) == true)=true→(0:Int)≤(0:Int)∧(0:Int)≤(↑t.length:Int)∧(↑t.length:Int)≤(↑s.length:Int)) ∧
Q (bool (decide ((↑s.length:Int)≥(↑t.length:Int)) && List.take ((↑t.length:Int) - (0:Int)).toNat s == t)) H):=by kernel_rfl
theorem yN (X:aN) (s t:List UInt8) (H:AH) (Q:AV→AH→Prop):(gP X Tryd.prog [] 27 [.str s,.str t] H Q) =
(X.call 53 [str s,str t] H fun (v1:AV) (H1:AH)=>∃(b1:Bool),v1=bool b1∧Q (bool b1) H1):=by kernel_rfl
theorem GF (X:aN) (b i u k:Bool) (c n:Int) (H:AH) (Q:AV→AH→Prop):(gP X Tryd.prog [] 110 [.agg [.bool b,.bool i,.bool u,.bool k,.int .i64 c],.int .i64 n] H Q) =
(true=true ∧
∃(b1:Bool),
X.aM (X.al H (cells [bool b,bool i,bool u,bool k,int i64 c] 53 { whole:=true })) (X.n H) 0=some (bool b1) ∧
bif n == (1:Int) && b1 then
bif n == (1:Int) && b1 then Q (int i64 1) (X.al H (cells [bool b,bool i,bool u,bool k,int i64 c] 53 { whole:=true }))
else
bif n == (5:Int) then
∃(n1:Int),
X.aM (X.al H (cells [bool b,bool i,bool u,bool k,int i64 c] 53 { whole:=true })) (X.n H) 4=some (int i64 n1) ∧
Q (int i64 n1) (X.al H (cells [bool b,bool i,bool u,bool k,int i64 c] 53 { whole:=true }))
else Q (int i64 0) (X.al H (cells [bool b,bool i,bool u,bool k,int i64 c] 53 { whole:=true }))
else
∃(b2:Bool),
X.aM (X.al H (cells [bool b,bool i,bool u,bool k,int i64 c] 53 { whole:=true })) (X.n H) 1=some (bool b2) ∧
bif n == (2:Int) && b2 then
bif n == (2:Int) && b2 then Q (int i64 1) (X.al H (cells [bool b,bool i,bool u,bool k,int i64 c] 53 { whole:=true }))
else
bif n == (5:Int) then
∃(n2:Int),
X.aM (X.al H (cells [bool b,bool i,bool u,bool k,int i64 c] 53 { whole:=true })) (X.n H) 4=some (int i64 n2) ∧
Q (int i64 n2) (X.al H (cells [bool b,bool i,bool u,bool k,int i64 c] 53 { whole:=true }))
else Q (int i64 0) (X.al H (cells [bool b,bool i,bool u,bool k,int i64 c] 53 { whole:=true }))
else
∃(b3:Bool),
X.aM (X.al H (cells [bool b,bool i,bool u,bool k,int i64 c] 53 { whole:=true })) (X.n H) 2=some (bool b3) ∧
bif n == (3:Int) && b3 then
bif n == (3:Int) && b3 then Q (int i64 1) (X.al H (cells [bool b,bool i,bool u,bool k,int i64 c] 53 { whole:=true }))
else
bif n == (5:Int) then
∃(n3:Int),
X.aM (X.al H (cells [bool b,bool i,bool u,bool k,int i64 c] 53 { whole:=true })) (X.n H) 4=some (int i64 n3) ∧
Q (int i64 n3) (X.al H (cells [bool b,bool i,bool u,bool k,int i64 c] 53 { whole:=true }))
else Q (int i64 0) (X.al H (cells [bool b,bool i,bool u,bool k,int i64 c] 53 { whole:=true }))
else
∃(b4:Bool),
X.aM (X.al H (cells [bool b,bool i,bool u,bool k,int i64 c] 53 { whole:=true })) (X.n H) 3=some (bool b4) ∧
bif n == (4:Int) && b4 then Q (int i64 1) (X.al H (cells [bool b,bool i,bool u,bool k,int i64 c] 53 { whole:=true }))
else
bif n == (5:Int) then
∃(n4:Int),
X.aM (X.al H (cells [bool b,bool i,bool u,bool k,int i64 c] 53 { whole:=true })) (X.n H) 4=some (int i64 n4) ∧
Q (int i64 n4) (X.al H (cells [bool b,bool i,bool u,bool k,int i64 c] 53 { whole:=true }))
else Q (int i64 0) (X.al H (cells [bool b,bool i,bool u,bool k,int i64 c] 53 { whole:=true }))):=by kernel_rfl
theorem Jh (X:aN) (s:List UInt8) (H:AH) (Q:AV→AH→Prop) (I:Int→AH→Nat→Prop):(gP X Tryd.prog [⟨3,Int,[3,5],fun i=>[.int .i64 i,.ptr (some (X.n H,0))],I⟩] 62 [.str s] H Q) =
((∃(n1:Int),∃(k1:Nat),[int i64 0,ptr (some (X.n H,0))]=[int i64 n1,ptr (some (X.n H,0))]∧I n1 (X.al H (aS.iter s 0)) k1) ∧
∀(n2:Int) (H1:AH) (k2:Nat),
I n2 H1 k2 →
∃(s1:List UInt8),
∃(k3:Nat),
X.get H1 (X.n H)=some (aS.iter s1 k3) ∧
(k3<s1.length →
∃(n3:Int),
∃(k4:Nat),
k4<k2 ∧
[int i64 (X.wrap i64 (n2+(1:Int))),ptr (some (X.n H,0))]=[int i64 n3,ptr (some (X.n H,0))] ∧
I n3 (X.set H1 (X.n H) (aS.iter s1 (k3+(ah s1 k3).2))) k4) ∧
(¬k3<s1.length→Q (int i64 n2) H1)):=by kernel_rfl
theorem Jb (X:aN) (s:List UInt8) (H:AH) (Q:AV→AH→Prop):(gP X Tryd.prog [] 54 [.str s] H Q) =
(true=true∧Q (AV.func (Fn.func 77) [] [ptr (some (X.n H,0))]) (X.al H (cells [str s] 9 { whole:=true }))):=by kernel_rfl
theorem JO (X:aN) (s:List UInt8) (q:Option (Nat×Nat)) (k:Nat) (H:AH) (Q:AV→AH→Prop):(gP X Tryd.prog [] 79 [.str s,.slice q k k] H Q) =
(X.call 93 [slice q k k] (X.al H (cells [str [],slice none 0 0] 26 { whole:=true })) fun (v1:AV) (H1:AH) =>
∃(q1:Option (Nat×Nat)),
∃(k1 k2:Nat),
v1=slice q1 k1 k2 ∧
bif decide ((↑k1:Int) > (256:Int)) then
[str [],slice none 0 0].length=2 ∧
∃(H2:AH),
X.wr H1 (X.n H) 0 [str [],slice none 0 0]=some H2 ∧
∃(s1:List UInt8),
∃(q2:Option (Nat×Nat)),∃(k3:Nat),∃(k4:Nat),X.bP H2 (X.n H) 0 2=some [str s1,slice q2 k3 k4]∧Q (tuple [agg [str s1,slice q2 k3 k4],int i64 2]) H2
else
[str s,slice q1 k1 k2].length=2 ∧
∃(H3:AH),
X.wr H1 (X.n H) 0 [str s,slice q1 k1 k2]=some H3 ∧
∃(s2:List UInt8),
∃(q3:Option (Nat×Nat)),∃(k5:Nat),∃(k6:Nat),X.bP H3 (X.n H) 0 2=some [str s2,slice q3 k5 k6]∧Q (tuple [agg [str s2,slice q3 k5 k6],int i64 0]) H3):=by kernel_rfl
theorem LO (X:Option Nat→aN) (It:FuncId→List AV→List AV→(AH→Prop)→List (List AV)→Prop) (s:List UInt8) (q:Option (Nat×Nat)) (k:Nat) (H:AH) (Q:AV→AH→Prop):(oh X It Tryd.prog [⟨6,Int×Int×Option (Nat×Nat)×Nat,[0,4,5,6,7,16,17,18],fun x=>[.str s,.ptr (some ((X none).n H,0)),.int .i64 0,.slice x.2.2.1 x.2.2.2 x.2.2.2,.int .i64 x.2.1,.slice q k k,.int .i64 k,.int .i64 x.1],fun _ _ _=>True⟩,⟨11,Int×Int×(Option (Nat×Nat)×Nat)×Nat×Int×Int,[0,4,5,6,7,9,16,17,18,57,58],fun x=>[.str s,.ptr (some ((X none).n H,0)),.int .i64 0,.slice x.2.2.1.1 x.2.2.1.2 x.2.2.1.2,.int .i64 x.2.1,.ptr (some (x.2.2.2.1,0)),.slice q k k,.int .i64 k,.int .i64 x.1,.int .i64 x.2.2.2.2.1,.int .i64 x.2.2.2.2.2],fun _ _ _=>True⟩] [] 55 [.str s,.slice q k k] H Q) =
(bif decide ((↑s.length:Int) > (4096:Int)) then
[str [],slice none 0 0].length=2 ∧
∃(H1:AH),
(X none).wr ((X none).al H (cells [str [],slice none 0 0] 26 { whole:=true })) ((X none).n H) 0 [str [],slice none 0 0]=some H1 ∧
∃(s1:List UInt8),
∃(q1:Option (Nat×Nat)),
∃(k1:Nat),∃(k2:Nat),(X none).bP H1 ((X none).n H) 0 2=some [str s1,slice q1 k1 k2]∧Q (tuple [agg [str s1,slice q1 k1 k2],int i64 3]) H1
else
(X none).call 62 [str s] ((X none).al H (cells [str [],slice none 0 0] 26 { whole:=true })) fun (v1:AV) (H2:AH) =>
∃(n1:Int),
v1=int i64 n1 ∧
∃(x1:Int×Int×Option (Nat×Nat)×Nat→AH→Nat→Prop),
(∃(x2:Int×Int×Option (Nat×Nat)×Nat),
∃(k3:Nat),
[str s,ptr (some ((X none).n H,(0:Nat))),int i64 0,slice none (0:Nat) (0:Nat),int i64 n1,slice q k k,int i64 (↑k:Int),int i64 0] =
[str s,ptr (some ((X none).n H,(0:Nat))),int i64 0,slice x2.2.2.1 x2.2.2.2 x2.2.2.2,int i64 x2.2.1,slice q k k,int i64 (↑k:Int),
int i64 x2.1] ∧
x1 x2 H2 k3) ∧
∀(x3:Int×Int×Option (Nat×Nat)×Nat) (H3:AH) (k4:Nat),
x1 x3 H3 k4 →
bif decide (x3.1<(↑k:Int)) then
∃(k5 k6:Nat),
(q=some (k5,k6)∧(0:Int)≤x3.1∧x3.1<(↑k:Int)) ∧
∃(n2 n3:Int),
∃(b1 b2 b3 b4:Bool),
∃(n4:Int),
(X none).bP H3 k5 (k6+x3.1.toNat*7) 7=some [int i64 n2,int i64 n3,bool b1,bool b2,bool b3,bool b4,int i64 n4] ∧
[int i64 n2,int i64 n3,bool b1,bool b2,bool b3,bool b4,int i64 n4].length=7 ∧
∃(H4:AH),
(X none).wr
((X none).al H3
(cells [int i64 0,int i64 0,bool false,bool false,bool false,bool false,int i64 0] 109
{ whole:=true }))
((X none).n H3) 0 [int i64 n2,int i64 n3,bool b1,bool b2,bool b3,bool b4,int i64 n4] =
some H4 ∧
∃(n5:Int),
(X none).aM H4 ((X none).n H3) 0=some (int i64 n5) ∧
∃(n6:Int),
(X none).aM H4 ((X none).n H3) 1=some (int i64 n6) ∧
∃(n7:Int),
(X none).aM H4 ((X none).n H3) 0=some (int i64 n7) ∧
∃(n8:Int),
(X none).aM H4 ((X none).n H3) 1=some (int i64 n8) ∧
∃(n9:Int),
(X none).aM H4 ((X none).n H3) 6=some (int i64 n9) ∧
∃(fO:Int),
(X none).aM H4 ((X none).n H3) 6=some (int i64 fO) ∧
bif n5 != (↑x3.2.2.2:Int) || decide (n6≤n7) || decide (n8 > x3.2.1) || decide (n9<(0:Int)) || decide (fO > (16777216:Int)) then
[str [],slice none 0 0].length=2 ∧
∃(H5:AH),
(X none).wr H4 ((X none).n H) 0 [str [],slice none 0 0]=some H5 ∧
∃(s2:List UInt8),
∃(q2:Option (Nat×Nat)),
∃(k7 k8:Nat),
(X none).bP H5 ((X none).n H) 0 2=some [str s2,slice q2 k7 k8] ∧
Q (tuple [agg [str s2,slice q2 k7 k8],int i64 1]) H5
else
∃(iL:Int),
(X none).aM H4 ((X none).n H3) 1=some (int i64 iL) ∧
∃(kI:Int),
(X none).aM H4 ((X none).n H3) 0=some (int i64 kI) ∧
∃(x4:Int×Int×(Option (Nat×Nat)×Nat)×Nat×Int×Int→AH→Nat→Prop),
(∃(x5:Int×Int×(Option (Nat×Nat)×Nat)×Nat×Int×Int),
∃(k9:Nat),
[str s,ptr (some ((X none).n H,0)),int i64 0,slice x3.2.2.1 x3.2.2.2 x3.2.2.2,
int i64 x3.2.1,ptr (some ((X none).n H3,(0:Nat))),slice q k k,int i64 (↑k:Int),int i64 x3.1,
int i64 ((X none).wrap i64 (iL - kI)),int i64 0] =
[str s,ptr (some ((X none).n H,0)),int i64 0,slice x5.2.2.1.1 x5.2.2.1.2 x5.2.2.1.2,
int i64 x5.2.1,ptr (some (x5.2.2.2.1,(0:Nat))),slice q k k,int i64 (↑k:Int),
int i64 x5.1,int i64 x5.2.2.2.2.1,int i64 x5.2.2.2.2.2] ∧
x4 x5 H4 k9) ∧
∀(x6:Int×Int×(Option (Nat×Nat)×Nat)×Nat×Int×Int) (H6:AH) (nO:Nat),
x4 x6 H6 nO →
bif decide (x6.2.2.2.2.2<x6.2.2.2.2.1) then
∃(b5 b6 b7 b8:Bool),
∃(jQ:Int),
(X none).bP H6 x6.2.2.2.1 2 5=some [bool b5,bool b6,bool b7,bool b8,int i64 jQ] ∧
(5≤16777216∧5=5∧0<5∧true=true∧true=true) ∧
∃(q3:Option (Nat×Nat)),
∃(gQ mF:Nat),
∃(H7:AH),
(X none).app 50 50 (slice x6.2.2.1.1 x6.2.2.1.2 x6.2.2.1.2)
(slice (some ((X none).n H6,0)) 1 1)
((X none).al H6
(cells [bool b5,bool b6,bool b7,bool b8,int i64 jQ] 53 { whole:=true })) =
some (slice q3 gQ mF,H7) ∧
∃(x7:Int×Int×(Option (Nat×Nat)×Nat)×Nat×Int×Int),
∃(nN:Nat),
nN<nO ∧
[str s,ptr (some ((X none).n H,0)),int i64 0,slice q3 gQ mF,
int i64 x6.2.1,ptr (some (x6.2.2.2.1,0)),slice q k k,
int i64 (↑k:Int),int i64 x6.1,int i64 x6.2.2.2.2.1,
int i64 ((X none).wrap i64 (x6.2.2.2.2.2+(1:Int)))] =
[str s,ptr (some ((X none).n H,0)),int i64 0,
slice x7.2.2.1.1 x7.2.2.1.2 x7.2.2.1.2,int i64 x7.2.1,
ptr (some (x7.2.2.2.1,(0:Nat))),slice q k k,int i64 (↑k:Int),
int i64 x7.1,int i64 x7.2.2.2.2.1,int i64 x7.2.2.2.2.2] ∧
x4 x7 H7 nN
else
∃(x8:Int×Int×Option (Nat×Nat)×Nat),
∃(kQ:Nat),
kQ<k4 ∧
[str s,ptr (some ((X none).n H,0)),int i64 0,
slice x6.2.2.1.1 x6.2.2.1.2 x6.2.2.1.2,int i64 x6.2.1,slice q k k,
int i64 (↑k:Int),int i64 ((X none).wrap i64 (x6.1+(1:Int)))] =
[str s,ptr (some ((X none).n H,0)),int i64 0,slice x8.2.2.1 x8.2.2.2 x8.2.2.2,
int i64 x8.2.1,slice q k k,int i64 (↑k:Int),int i64 x8.1] ∧
x1 x8 H6 kQ
else
bif (↑x3.2.2.2:Int) != x3.2.1 then
[str [],slice none 0 0].length=2 ∧
∃(H8:AH),
(X none).wr H3 ((X none).n H) 0 [str [],slice none 0 0]=some H8 ∧
∃(s3:List UInt8),
∃(q4:Option (Nat×Nat)),
∃(nh:Nat),∃(rJ:Nat),(X none).bP H8 ((X none).n H) 0 2=some [str s3,slice q4 nh rJ]∧Q (tuple [agg [str s3,slice q4 nh rJ],int i64 1]) H8
else
(X none).call 79 [str s,slice x3.2.2.1 x3.2.2.2 x3.2.2.2] H3 fun (v2:AV) (H9:AH) =>
∃(s4:List UInt8),
∃(q5:Option (Nat×Nat)),
∃(kP oV:Nat),
∃(kX:Int),
v2=tuple [agg [str s4,slice q5 kP oV],int i64 kX] ∧
[str s4,slice q5 kP oV].length=2 ∧
∃(kN:AH),
(X none).wr H9 ((X none).n H) 0 [str s4,slice q5 kP oV]=some kN ∧
∃(s5:List UInt8),
∃(q6:Option (Nat×Nat)),
∃(uN Ck:Nat),(X none).bP kN ((X none).n H) 0 2=some [str s5,slice q6 uN Ck]∧Q (tuple [agg [str s5,slice q6 uN Ck],int i64 kX]) kN):=by kernel_rfl
theorem Ep (X:aN) (b p:Nat) (H:AH) (Q:AV→AH→Prop) (I:Unit→AH→Nat→Prop):(gP X Tryd.prog [⟨1,Unit,[0,1,7],fun _=>[.cV b,.ptr (some (p,0)),.ptr (some (X.n H,0))],I⟩] 77 [.cV b,.ptr (some (p,0))] H Q) =
(∃(s1:List UInt8),
X.aM H p 0=some (str s1) ∧
(∃(x1:PUnit),∃(k1:Nat),[AV.cV b,ptr (some (p,0)),ptr (some (X.n H,0))]=[AV.cV b,ptr (some (p,0)),ptr (some (X.n H,0))]∧I x1 (X.al H (aS.iter s1 0)) k1) ∧
∀(x2:PUnit) (H1:AH) (k2:Nat),
I x2 H1 k2 →
∃(s2:List UInt8),
∃(k3:Nat),
X.get H1 (X.n H)=some (aS.iter s2 k3) ∧
(k3<s2.length →
bif (↑(ah s2 k3).1:Int) != (65533:Int) then
X.call (78:Nat) [int i32 (↑(ah s2 k3).1:Int)] (X.set H1 (X.n H) (aS.iter s2 (k3+(ah s2 k3).2))) fun (v1:AV) (H2:AH) =>
∃(n1:Int),
v1=int i64 n1 ∧
X.cV b [agg [int i64 (↑k3:Int),int i64 n1,int i32 (↑(ah s2 k3).1:Int),bool ((↑(ah s2 k3).1:Int) == (65533:Int) && n1 == (1:Int))]] H2
fun (v2:AV) (H3:AH) =>
∃(b1:Bool),
v2=bool b1 ∧
bif !b1 then Q (tuple []) H3
else
∃(x3:PUnit),∃(k4:Nat),k4<k2∧[AV.cV b,ptr (some (p,0)),ptr (some (X.n H,0))]=[AV.cV b,ptr (some (p,0)),ptr (some (X.n H,0))]∧I x3 H3 k4
else
∃(s3:List UInt8),
X.aM (X.set H1 (X.n H) (aS.iter s2 (k3+(ah s2 k3).2))) p 0=some (str s3) ∧
((0:Int)≤(↑k3:Int)∧(↑k3:Int)≤(↑s3.length:Int)∧(↑s3.length:Int)≤(↑s3.length:Int)) ∧
X.call (27:Nat) [str (List.take ((↑s3.length:Int) - (↑k3:Int)).toNat (List.drop (↑k3:Int).toNat s3)),str [(239:UInt8),(191:UInt8),(189:UInt8)]]
(X.set H1 (X.n H) (aS.iter s2 (k3+(ah s2 k3).2))) fun (v3:AV) (H4:AH) =>
∃(b2:Bool),
v3=bool b2 ∧
bif b2 then
X.cV b [agg [int i64 (↑k3:Int),int i64 3,int i32 (↑(ah s2 k3).1:Int),bool ((↑(ah s2 k3).1:Int) == (65533:Int) && false)]] H4
fun (v4:AV) (H5:AH) =>
∃(b3:Bool),
v4=bool b3 ∧
bif !b3 then Q (tuple []) H5
else
∃(x4:PUnit),
∃(k5:Nat),k5<k2∧[AV.cV b,ptr (some (p,0)),ptr (some (X.n H,0))]=[AV.cV b,ptr (some (p,0)),ptr (some (X.n H,0))]∧I x4 H5 k5
else
X.cV b [agg [int i64 (↑k3:Int),int i64 1,int i32 (↑(ah s2 k3).1:Int),bool ((↑(ah s2 k3).1:Int) == (65533:Int) && true)]] H4
fun (v5:AV) (H6:AH) =>
∃(b4:Bool),
v5=bool b4 ∧
bif !b4 then Q (tuple []) H6
else
∃(x5:PUnit),
∃(k6:Nat),k6<k2∧[AV.cV b,ptr (some (p,0)),ptr (some (X.n H,0))]=[AV.cV b,ptr (some (p,0)),ptr (some (X.n H,0))]∧I x5 H6 k6) ∧
(¬k3<s2.length→Q (tuple []) H1)):=by kernel_rfl
end Go.Proofs.YtlkdhhkncoekgaaDoor
