/- What functions ask (printed). -/
import Derived.Test.YtlkdhhkncoekgaaGreatDoorAmTri
import Derived.Test.YtlkdhhkncoekgaaGreatDoorTabs
namespace Go.Proofs.YtlkdhhkncoekgaaGreatDoor
open Go.Am Go
open _root_.Go.Am.AV (int slice ptr str bool agg tuple)
open _root_.Go.IntKind (i64 i32 u8 u64)
open _root_.Go.Am.aY (cells)
theorem Fm (X:Option Nat→aO) (It:FuncId→List AV→List AV→(AH→Prop)→List (List AV)→Prop) (s t:List UInt8) (q r:Option (Nat×Nat)) (k c m e:Nat) (H:AH) (Q:AV→AH→Prop):(nx X It Tryz.prog [⟨200002,Nat×Nat×Bool,[2,3,22],fun x=>[.ptr (some (x.1,0)),.ptr (some (x.2.1,0)),.bool x.2.2],fun _ _ _=>True⟩,⟨6,(Option (Nat×Nat)×Nat)×(Option (Nat×Nat)×Nat)×Int,[5,6,7],fun x=>[.slice x.1.1 x.1.2 x.1.2,.slice x.2.1.1 x.2.1.2 x.2.1.2,.int .i64 x.2.2],fun _ _ _=>True⟩] [] 16 [.agg [.str s,.slice q k c],.agg [.str t,.slice r m e]] H Q) =
(true=true ∧
true=true ∧
∃(x1:Nat×Nat×Bool→AH→Prop),
(∃(s1:List UInt8),
∃(q1:Option (Nat×Nat)),
∃(k1 k2:Nat),
(X none).bC ((X none).al ((X none).al H (cells [str s,slice q k c] 24 { whole:=true })) (cells [str t,slice r m e] 24 { whole:=true })) ((X none).n H) 0 2 =
some [str s1,slice q1 k1 k2] ∧
(X none).call 29 [agg [str s1,slice q1 k1 k2]]
((X none).al ((X none).al H (cells [str s,slice q k c] 24 { whole:=true })) (cells [str t,slice r m e] 24 { whole:=true })) fun (v1:AV) (H1:AH) =>
∃(n1:Int),
v1=int i64 n1 ∧
∃(s2:List UInt8),
∃(q2:Option (Nat×Nat)),
∃(k3 k4:Nat),
(X none).bC H1 ((X none).n ((X none).al H (cells [str s,slice q k c] 24 { whole:=true }))) 0 2=some [str s2,slice q2 k3 k4] ∧
bif (n1 != (0:Int)) == false then
(X none).call 29 [agg [str s2,slice q2 k3 k4]] H1 fun (v2:AV) (H2:AH) =>
∃(n2:Int),
v2=int i64 n2 ∧
∃(s3:List UInt8),
(X none).aM H2 ((X none).n H) 0=some (str s3) ∧
∃(s4:List UInt8),
(X none).aM H2 ((X none).n ((X none).al H (cells [str s,slice q k c] 24 { whole:=true }))) 0=some (str s4) ∧
∃(x2:Nat×Nat×Bool),
∃(_k5:Nat),
True ∧
[ptr (some ((X none).n H,0)),ptr (some ((X none).n ((X none).al H (cells [str s,slice q k c] 24 { whole:=true })),0)),
bool (n2 != (0:Int) || !s3 == s4)] =
[ptr (some (x2.1,0)),ptr (some (x2.2.1,0)),bool x2.2.2] ∧
x1 x2 H2
else
∃(s5:List UInt8),
(X none).aM H1 ((X none).n H) 0=some (str s5) ∧
∃(s6:List UInt8),
(X none).aM H1 ((X none).n ((X none).al H (cells [str s,slice q k c] 24 { whole:=true }))) 0=some (str s6) ∧
∃(x3:Nat×Nat×Bool),
∃(_k6:Nat),
True ∧
[ptr (some ((X none).n H,0)),ptr (some ((X none).n ((X none).al H (cells [str s,slice q k c] 24 { whole:=true })),0)),bool true] =
[ptr (some (x3.1,0)),ptr (some (x3.2.1,0)),bool x3.2.2] ∧
x1 x3 H1) ∧
∀(x4:Nat×Nat×Bool) (H3:AH),
x1 x4 H3 →
bif x4.2.2 then Q (bool false) H3
else
∃(s7:List UInt8),
∃(q3:Option (Nat×Nat)),
∃(k7 k8:Nat),
(X none).bC H3 x4.1 0 2=some [str s7,slice q3 k7 k8] ∧
(X none).call 35 [agg [str s7,slice q3 k7 k8]] H3 fun (v3:AV) (H4:AH) =>
∃(q4:Option (Nat×Nat)),
∃(k9 jb:Nat),
v3=slice q4 k9 jb ∧
∃(s8:List UInt8),
∃(q5:Option (Nat×Nat)),
∃(fN iq:Nat),
(X none).bC H4 x4.2.1 0 2=some [str s8,slice q5 fN iq] ∧
(X none).call 35 [agg [str s8,slice q5 fN iq]] H4 fun (v4:AV) (H5:AH) =>
∃(q6:Option (Nat×Nat)),
∃(jM iD:Nat),
v4=slice q6 jM iD ∧
∃(x5:(Option (Nat×Nat)×Nat)×(Option (Nat×Nat)×Nat)×Int→AH→Nat→Prop),
(∃(x6:(Option (Nat×Nat)×Nat)×(Option (Nat×Nat)×Nat)×Int),
∃(jr:Nat),
[slice q4 k9 jb,slice q6 jM iD,int i64 0] =
[slice x6.1.1 x6.1.2 x6.1.2,slice x6.2.1.1 x6.2.1.2 x6.2.1.2,int i64 x6.2.2] ∧
x5 x6 H5 jr) ∧
∀(x7:(Option (Nat×Nat)×Nat)×(Option (Nat×Nat)×Nat)×Int) (H6:AH) (m6:Nat),
x5 x7 H6 m6 →
bif decide (x7.2.2<(↑x7.1.2:Int)) then
∃(jq lK:Nat),
(x7.1.1=some (jq,lK)∧(0:Int)≤x7.2.2∧x7.2.2<(↑x7.1.2:Int)) ∧
∃(b1 b2 b3 b4:Bool),
∃(n3:Int),
(X none).bC H6 jq (lK+x7.2.2.toNat*5) 5=some [bool b1,bool b2,bool b3,bool b4,int i64 n3] ∧
∃(sB zL:Nat),
(x7.2.1.1=some (sB,zL)∧(0:Int)≤x7.2.2∧x7.2.2<(↑x7.2.1.2:Int)) ∧
∃(b5 b6 b7 b8:Bool),
∃(n4:Int),
(X none).bC H6 sB (zL+x7.2.2.toNat*5) 5 =
some [bool b5,bool b6,bool b7,bool b8,int i64 n4] ∧
bif !(b1 == b5 && (b2 == b6 && (b3 == b7 && (b4 == b8 && (n3 == n4 && true))))) then Q (bool false) H6
else
∃(x8:(Option (Nat×Nat)×Nat)×(Option (Nat×Nat)×Nat)×Int),
∃(qA:Nat),
qA<m6 ∧
[slice x7.1.1 x7.1.2 x7.1.2,slice x7.2.1.1 x7.2.1.2 x7.2.1.2,
int i64 ((X none).wrap i64 (x7.2.2+(1:Int)))] =
[slice x8.1.1 x8.1.2 x8.1.2,slice x8.2.1.1 x8.2.1.2 x8.2.1.2,
int i64 x8.2.2] ∧
x5 x8 H6 qA
else Q (bool true) H6):=by kernel_rfl
theorem Kt (X:Option Nat→aO) (It:FuncId→List AV→List AV→(AH→Prop)→List (List AV)→Prop) (d:Int) (s:List UInt8) (q:Option (Nat×Nat)) (k c:Nat) (bl:Bool) (H:AH) (Q:AV→AH→Prop):(nx X It Tryz.prog [⟨200004,Nat×Bool,[0,2,4,27],fun x=>[.int .i64 d,.bool bl,.ptr (some (x.1,0)),.bool x.2],fun _ _ _=>True⟩,⟨200015,Nat×Bool,[2,7,95],fun x=>[.bool bl,.ptr (some (x.1,0)),.bool x.2],fun _ _ _=>True⟩,⟨18,Nat×Int×Nat,[2,7,15,98],fun x=>[.bool bl,.ptr (some (x.1,0)),.int .i32 x.2.1,.ptr (some (x.2.2,0))],fun _ _ _=>True⟩] [] 4 [.int .i64 d,.agg [.str s,.slice q k c],.bool bl] H Q) =
(true=true ∧
(X none).call 8 [] ((X none).al H (cells [str s,slice q k c] 24 { whole:=true })) fun (v1:AV) (H1:AH) =>
∃(b1:Bool),
v1=bool b1 ∧
bif !b1 then Q (bool false) H1
else
∃(x1:Nat×Bool→AH→Prop),
((X none).call 14 [int i64 d] H1 fun (v2:AV) (H2:AH) =>
∃(b2:Bool),
v2=bool b2 ∧
∃(s1:List UInt8),
∃(q1:Option (Nat×Nat)),
∃(k1 k2:Nat),
(X none).bC H2 ((X none).n H) 0 2=some [str s1,slice q1 k1 k2] ∧
bif (!b2) == false then
(X none).call 15 [agg [str s1,slice q1 k1 k2]] H2 fun (v3:AV) (H3:AH) =>
∃(b3:Bool),
v3=bool b3 ∧
∃(x2:Nat×Bool),
∃(_k3:Nat),
True∧[int i64 d,bool bl,ptr (some ((X none).n H,0)),bool !b3]=[int i64 d,bool bl,ptr (some (x2.1,0)),bool x2.2]∧x1 x2 H3
else
∃(x3:Nat×Bool),
∃(_k4:Nat),
True∧[int i64 d,bool bl,ptr (some ((X none).n H,0)),bool true]=[int i64 d,bool bl,ptr (some (x3.1,0)),bool x3.2]∧x1 x3 H2) ∧
∀(x4:Nat×Bool) (H4:AH),
x1 x4 H4 →
bif x4.2 then Q (bool true) H4
else
∃(s2:List UInt8),
∃(q2:Option (Nat×Nat)),
∃(k5 k6:Nat),
(X none).bC H4 x4.1 0 2=some [str s2,slice q2 k5 k6] ∧
(X none).call 10 [int i64 d,agg [str s2,slice q2 k5 k6],bool bl] H4 fun (v4:AV) (H5:AH) =>
∃(s3:List UInt8),
∃(q3:Option (Nat×Nat)),
∃(k7 k8:Nat),
∃(n1 n2 n3 n4:Int),
v4=tuple [agg [str s3,slice q3 k7 k8],int i64 n1,int i64 n2,int i64 n3,int i64 n4] ∧
[str s3,slice q3 k7 k8].length=2 ∧
∃(H6:AH),
(X none).wr ((X none).al H5 (cells [str [],slice none 0 0] 24 { whole:=true })) ((X none).n H5) 0 [str s3,slice q3 k7 k8]=some H6 ∧
bif n4 != (0:Int) then Q (bool (n4 == (3:Int) || n4 == (2:Int))) H6
else
∃(s4:List UInt8),
∃(q4:Option (Nat×Nat)),
∃(k9 jb:Nat),
(X none).bC H6 ((X none).n H5) 0 2=some [str s4,slice q4 k9 jb] ∧
(X none).call 15 [agg [str s4,slice q4 k9 jb]] H6 fun (v5:AV) (H7:AH) =>
∃(b4:Bool),
v5=bool b4 ∧
bif !b4 || decide (n1<(0:Int)) || decide (n2<(0:Int)) || decide (n3<(0:Int)) || bl && n2 != (0:Int) then Q (bool false) H7
else
∃(s5:List UInt8),
∃(q5:Option (Nat×Nat)),
∃(fN iq:Nat),
(X none).bC H7 ((X none).n H5) 0 2=some [str s5,slice q5 fN iq] ∧
∃(s6:List UInt8),
∃(q6:Option (Nat×Nat)),
∃(jM iD:Nat),
(X none).bC H7 x4.1 0 2=some [str s6,slice q6 jM iD] ∧
(X none).call 16 [agg [str s5,slice q5 fN iq],agg [str s6,slice q6 jM iD]] H7 fun (v6:AV) (H8:AH) =>
∃(b5:Bool),
v6=bool b5 ∧
bif !(n1 == (0:Int) && n2 == (0:Int) && n3 == (0:Int)) == b5 then Q (bool false) H8
else
∃(s7:List UInt8),
∃(q7:Option (Nat×Nat)),
∃(jr m6:Nat),
(X none).bC H8 ((X none).n H5) 0 2=some [str s7,slice q7 jr m6] ∧
(X none).call 17 [agg [str s7,slice q7 jr m6]] H8 fun (v7:AV) (H9:AH) =>
∃(s8:List UInt8),
∃(q8:Option (Nat×Nat)),
∃(jq lK:Nat),
∃(n5:Int),
v7=tuple [agg [str s8,slice q8 jq lK],int i64 n5] ∧
[str s8,slice q8 jq lK].length=2 ∧
∃(jd:AH),
(X none).wr
((X none).al H9
(cells [str [],slice none 0 0] 24 { whole:=true }))
((X none).n H9) 0 [str s8,slice q8 jq lK] =
some jd ∧
∃(x5:Nat×Bool→AH→Prop),
(∃(s9:List UInt8),
∃(q9:Option (Nat×Nat)),
∃(sB zL:Nat),
(X none).bC jd ((X none).n H9) 0 2=some [str s9,slice q9 sB zL] ∧
∃(Pr:List UInt8),
∃(Qs:Option (Nat×Nat)),
∃(qA pN:Nat),
(X none).bC jd ((X none).n H5) 0 2 =
some [str Pr,slice Qs qA pN] ∧
bif (n5 != (0:Int)) == false then
(X none).call 13
[agg [str s9,slice q9 sB zL],
agg [str Pr,slice Qs qA pN]]
jd fun (v8:AV) (nT:AH) =>
∃(b6:Bool),
v8=bool b6 ∧
∃(x6:Nat×Bool),
∃(_k23:Nat),
True ∧
[bool bl,ptr (some ((X none).n H5,0)),
bool !b6] =
[bool bl,ptr (some (x6.1,0)),
bool x6.2] ∧
x5 x6 nT
else
∃(x7:Nat×Bool),
∃(_k24:Nat),
True ∧
[bool bl,ptr (some ((X none).n H5,0)),bool true] =
[bool bl,ptr (some (x7.1,0)),bool x7.2] ∧
x5 x7 jd) ∧
∀(x8:Nat×Bool) (oK:AH),
x5 x8 oK →
bif x8.2 then Q (bool false) oK
else
∃(xX:List UInt8),
(X none).aM oK x8.1 0=some (str xX) ∧
∃(x9:Nat×Int×Nat→AH→Nat→Prop),
(∃(bp:Nat×Int×Nat),
∃(FP:Nat),
[bool bl,ptr (some (x8.1,0)),int i32 (10:Int),
ptr (some ((X none).n oK,0))] =
[bool bl,ptr (some (bp.1,0)),int i32 bp.2.1,
ptr (some (bp.2.2,0))] ∧
x9 bp ((X none).al oK (aY.iter xX 0)) FP) ∧
∀(eL:Nat×Int×Nat) (nw:AH) (wR:Nat),
x9 eL nw wR →
∃(BP:List UInt8),
∃(ny:Nat),
(X none).get nw eL.2.2=some (aY.iter BP ny) ∧
(ny<BP.length →
bif
!bl && (↑(ah BP ny).1:Int) == (10:Int) &&
eL.2.1 == (10:Int) then
Q (bool false)
((X none).set nw eL.2.2
(aY.iter BP (ny+(ah BP ny).2)))
else
bif
decide ((↑(ah BP ny).1:Int)<(32:Int)) &&
(↑(ah BP ny).1:Int) != (10:Int) then
Q (bool false)
((X none).set nw eL.2.2
(aY.iter BP (ny+(ah BP ny).2)))
else
∃(dL:Nat×Int×Nat),
∃(zK:Nat),
zK<wR ∧
[bool bl,ptr (some (eL.1,0)),
int i32 (↑(ah BP ny).1:Int),
ptr (some (eL.2.2,0))] =
[bool bl,ptr (some (dL.1,0)),
int i32 dL.2.1,
ptr (some (dL.2.2,0))] ∧
x9 dL
((X none).set nw eL.2.2
(aY.iter BP (ny+(ah BP ny).2)))
zK) ∧
(¬ny<BP.length →
∃(Qj:List UInt8),
(X none).aM nw eL.1 0=some (str Qj) ∧
Q (bool (bl || Qj == [] || eL.2.1 != (10:Int))) nw)):=by kernel_rfl
end Go.Proofs.YtlkdhhkncoekgaaGreatDoor
