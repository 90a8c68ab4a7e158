/- What functions ask (printed). -/
import Derived.Test.YtlkdhhkncoekgaaGreatDoorAmTri
import Derived.Test.YtlkdhhkncoekgaaGreatDoorTabs
namespace Go.Proofs.YtlkdhhkncoekgaaGreatDoor
open Go.Am Go
open _root_.Go.Am.AV (int slice ptr str bool agg tuple)
open _root_.Go.IntKind (i64 i32 u8 u64)
open _root_.Go.Am.aY (cells)
theorem Iv (X:Option Nat→aO) (It:FuncId→List AV→List AV→(AH→Prop)→List (List AV)→Prop) (q:Option (Nat×Nat)) (k:Nat) (H:AH) (Q:AV→AH→Prop):(nx X It Tryz.prog [⟨4,Int×(Option (Nat×Nat)×Nat)×(Option (Nat×Nat)×Nat),[0,3,4,5],fun x=>[.slice q k k,.slice x.2.1.1 x.2.1.2 x.2.1.2,.slice x.2.2.1 x.2.2.2 x.2.2.2,.int .i64 x.1],fun _ _ _=>True⟩,⟨8,(Int×(Option (Nat×Nat)×Nat)×(Option (Nat×Nat)×Nat))×Int×Int,[0,3,4,5,6,7],fun x=>[.slice q k k,.slice x.1.2.1.1 x.1.2.1.2 x.1.2.1.2,.slice x.1.2.2.1 x.1.2.2.2 x.1.2.2.2,.int .i64 x.1.1,.int .i64 x.2.1,.int .i64 x.2.2],fun _ _ _=>True⟩,⟨11,((Int×(Option (Nat×Nat)×Nat)×(Option (Nat×Nat)×Nat))×Int×Int)×Int×Int,[0,3,4,5,6,7,8,9],fun x=>[.slice q k k,.slice x.1.1.2.1.1 x.1.1.2.1.2 x.1.1.2.1.2,.slice x.1.1.2.2.1 x.1.1.2.2.2 x.1.1.2.2.2,.int .i64 x.1.1.1,.int .i64 x.1.2.1,.int .i64 x.1.2.2,.int .i64 x.2.1,.int .i64 x.2.2],fun _ _ _=>True⟩,⟨200013,((Int×(Option (Nat×Nat)×Nat)×(Option (Nat×Nat)×Nat))×Int×Int)×Int×Int,[0,3,4,5,6,7,8,9],fun x=>[.slice q k k,.slice x.1.1.2.1.1 x.1.1.2.1.2 x.1.1.2.1.2,.slice x.1.1.2.2.1 x.1.1.2.2.2 x.1.1.2.2.2,.int .i64 x.1.1.1,.int .i64 x.1.2.1,.int .i64 x.1.2.2,.int .i64 x.2.1,.int .i64 x.2.2],fun _ _ _=>True⟩,⟨200017,((Int×(Option (Nat×Nat)×Nat)×(Option (Nat×Nat)×Nat))×Int×Int)×Nat,[0,3,4,5,6,9,10],fun x=>[.slice q k k,.slice x.1.1.2.1.1 x.1.1.2.1.2 x.1.1.2.1.2,.slice x.1.1.2.2.1 x.1.1.2.2.2 x.1.1.2.2.2,.int .i64 x.1.1.1,.int .i64 x.1.2.1,.int .i64 x.1.2.2,.ptr (some (x.2,0))],fun _ _ _=>True⟩,⟨200018,(Int×(Option (Nat×Nat)×Nat)×(Option (Nat×Nat)×Nat))×Int×Int,[0,3,4,5,6,9],fun x=>[.slice q k k,.slice x.1.2.1.1 x.1.2.1.2 x.1.2.1.2,.slice x.1.2.2.1 x.1.2.2.2 x.1.2.2.2,.int .i64 x.1.1,.int .i64 x.2.1,.int .i64 x.2.2],fun _ _ _=>True⟩,⟨20,(Int×(Option (Nat×Nat)×Nat)×(Option (Nat×Nat)×Nat))×(Option (Nat×Nat)×Nat×Nat)×Int×Int,[0,3,4,5,76,77,78],fun x=>[.slice q k k,.slice x.1.2.1.1 x.1.2.1.2 x.1.2.1.2,.slice x.1.2.2.1 x.1.2.2.2 x.1.2.2.2,.int .i64 x.1.1,.slice x.2.1.1 x.2.1.2.1 x.2.1.2.2,.int .i64 x.2.2.1,.int .i64 x.2.2.2],fun _ _ _=>True⟩] [] 131 [.slice q k k] H Q) =
(∃(q1:Option (Nat×Nat)),
∃(k1 k2:Nat),
∃(H1:AH),
(X none).Px (164:Nat) ((X none).wrap i64 ((↑k:Int)+(1:Int))) ((X none).wrap i64 ((↑k:Int)+(1:Int))) H=some (slice q1 k1 k2,H1) ∧
∃(x1:Int×(Option (Nat×Nat)×Nat)×Option (Nat×Nat)×Nat→AH→Nat→Prop),
(∃(x2:Int×(Option (Nat×Nat)×Nat)×Option (Nat×Nat)×Nat),
∃(k3:Nat),
[slice q k k,slice q1 k1 k2,slice none 0 0,int i64 1] =
[slice q k k,slice x2.2.1.1 x2.2.1.2 x2.2.1.2,slice x2.2.2.1 x2.2.2.2 x2.2.2.2,int i64 x2.1] ∧
x1 x2 H1 k3) ∧
∀(x3:Int×(Option (Nat×Nat)×Nat)×Option (Nat×Nat)×Nat) (H2:AH) (k4:Nat),
x1 x3 H2 k4 →
bif decide (x3.1≤(5:Int)) then
∃(x4:(Int×(Option (Nat×Nat)×Nat)×Option (Nat×Nat)×Nat)×Int×Int→AH→Nat→Prop),
(∃(x5:(Int×(Option (Nat×Nat)×Nat)×Option (Nat×Nat)×Nat)×Int×Int),
∃(k5:Nat),
[slice q k k,slice x3.2.1.1 x3.2.1.2 x3.2.1.2,slice x3.2.2.1 x3.2.2.2 x3.2.2.2,int i64 x3.1,int i64 (↑x3.2.2.2:Int),
int i64 0] =
[slice q k k,slice x5.1.2.1.1 x5.1.2.1.2 x5.1.2.1.2,slice x5.1.2.2.1 x5.1.2.2.2 x5.1.2.2.2,int i64 x5.1.1,
int i64 x5.2.1,int i64 x5.2.2] ∧
x4 x5 H2 k5) ∧
∀(x6:(Int×(Option (Nat×Nat)×Nat)×Option (Nat×Nat)×Nat)×Int×Int) (H3:AH) (k6:Nat),
x4 x6 H3 k6 →
bif decide (x6.2.2<(↑k:Int)) then
∃(k7 k8:Nat),
(q=some (k7,k8)∧(0:Int)≤x6.2.2∧x6.2.2<(↑k:Int)) ∧
∃(b1 b2 b3 b4:Bool),
∃(n1:Int),
(X none).bC H3 k7 (k8+x6.2.2.toNat*5) 5=some [bool b1,bool b2,bool b3,bool b4,int i64 n1] ∧
(X none).call 146 [agg [bool b1,bool b2,bool b3,bool b4,int i64 n1],int i64 x6.1.1] H3 fun (v1:AV) (H4:AH) =>
∃(n2:Int),
v1=int i64 n2 ∧
∃(x7:((Int×(Option (Nat×Nat)×Nat)×Option (Nat×Nat)×Nat)×Int×Int)×Int×Int→AH→Prop),
(∃(x8:((Int×(Option (Nat×Nat)×Nat)×Option (Nat×Nat)×Nat)×Int×Int)×Int×Int→AH→Nat→Prop),
(∃(x9:((Int×(Option (Nat×Nat)×Nat)×Option (Nat×Nat)×Nat)×Int×Int)×Int×Int),
∃(k9:Nat),
[slice q k k,slice x6.1.2.1.1 x6.1.2.1.2 x6.1.2.1.2,slice x6.1.2.2.1 x6.1.2.2.2 x6.1.2.2.2,
int i64 x6.1.1,int i64 x6.2.1,int i64 x6.2.2,int i64 n2,
int i64 ((X none).wrap i64 (x6.2.2+(1:Int)))] =
[slice q k k,slice x9.1.1.2.1.1 x9.1.1.2.1.2 x9.1.1.2.1.2,
slice x9.1.1.2.2.1 x9.1.1.2.2.2 x9.1.1.2.2.2,int i64 x9.1.1.1,int i64 x9.1.2.1,
int i64 x9.1.2.2,int i64 x9.2.1,int i64 x9.2.2] ∧
x8 x9 H4 k9) ∧
∀(bp:((Int×(Option (Nat×Nat)×Nat)×Option (Nat×Nat)×Nat)×Int×Int)×Int×Int) (H5:AH) (jb:Nat),
x8 bp H5 jb →
∃(fN iq:Nat),
((decide (bp.2.2<(↑k:Int)) == true)=true→q=some (fN,iq)∧(0:Int)≤bp.2.2∧bp.2.2<(↑k:Int)) ∧
∃(b5 b6 b7 b8:Bool),
∃(n3:Int),
((decide (bp.2.2<(↑k:Int)) == true)=true →
(X none).bC H5 fN (iq+bp.2.2.toNat*5) 5=some [bool b5,bool b6,bool b7,bool b8,int i64 n3]) ∧
bif decide (bp.2.2<(↑k:Int)) == true then
(X none).call 146 [agg [bool b5,bool b6,bool b7,bool b8,int i64 n3],int i64 bp.1.1.1] H5
fun (v2:AV) (H6:AH) =>
∃(n4:Int),
v2=int i64 n4 ∧
∃(jM iD:Nat),
(((n4 == bp.2.1) == true)=true →
bp.1.1.2.1.1=some (jM,iD)∧(0:Int)≤bp.2.2∧bp.2.2<(↑bp.1.1.2.1.2:Int)) ∧
∃(b9:Bool),
(((n4 == bp.2.1) == true)=true→(X none).aM H6 jM (iD+bp.2.2.toNat*1)=some (bool b9)) ∧
bif n4 == bp.2.1 && !b9 then
∃(eL:((Int×(Option (Nat×Nat)×Nat)×Option (Nat×Nat)×Nat)×Int×Int)×Int×Int),
∃(jr:Nat),
jr<jb ∧
[slice q k k,slice bp.1.1.2.1.1 bp.1.1.2.1.2 bp.1.1.2.1.2,
slice bp.1.1.2.2.1 bp.1.1.2.2.2 bp.1.1.2.2.2,int i64 bp.1.1.1,
int i64 bp.1.2.1,int i64 bp.1.2.2,int i64 bp.2.1,
int i64 ((X none).wrap i64 (bp.2.2+(1:Int)))] =
[slice q k k,slice eL.1.1.2.1.1 eL.1.1.2.1.2 eL.1.1.2.1.2,
slice eL.1.1.2.2.1 eL.1.1.2.2.2 eL.1.1.2.2.2,int i64 eL.1.1.1,
int i64 eL.1.2.1,int i64 eL.1.2.2,int i64 eL.2.1,
int i64 eL.2.2] ∧
x8 eL H6 jr
else
∃(dL:((Int×(Option (Nat×Nat)×Nat)×Option (Nat×Nat)×Nat)×Int×Int)×Int×Int),
∃(_k16:Nat),
True ∧
[slice q k k,slice bp.1.1.2.1.1 bp.1.1.2.1.2 bp.1.1.2.1.2,
slice bp.1.1.2.2.1 bp.1.1.2.2.2 bp.1.1.2.2.2,int i64 bp.1.1.1,
int i64 bp.1.2.1,int i64 bp.1.2.2,int i64 bp.2.1,
int i64 bp.2.2] =
[slice q k k,slice dL.1.1.2.1.1 dL.1.1.2.1.2 dL.1.1.2.1.2,
slice dL.1.1.2.2.1 dL.1.1.2.2.2 dL.1.1.2.2.2,int i64 dL.1.1.1,
int i64 dL.1.2.1,int i64 dL.1.2.2,int i64 dL.2.1,
int i64 dL.2.2] ∧
x7 dL H6
else
∃(jq lK:Nat),
(false=true→bp.1.1.2.1.1=some (jq,lK)∧(0:Int)≤bp.2.2∧bp.2.2<(↑bp.1.1.2.1.2:Int)) ∧
∃(BF:Bool),
(false=true→(X none).aM H5 jq (lK+bp.2.2.toNat*1)=some (bool BF)) ∧
∃(gX:((Int×(Option (Nat×Nat)×Nat)×Option (Nat×Nat)×Nat)×Int×Int)×Int×Int),
∃(_k19:Nat),
True ∧
[slice q k k,slice bp.1.1.2.1.1 bp.1.1.2.1.2 bp.1.1.2.1.2,
slice bp.1.1.2.2.1 bp.1.1.2.2.2 bp.1.1.2.2.2,int i64 bp.1.1.1,
int i64 bp.1.2.1,int i64 bp.1.2.2,int i64 bp.2.1,
int i64 bp.2.2] =
[slice q k k,slice gX.1.1.2.1.1 gX.1.1.2.1.2 gX.1.1.2.1.2,
slice gX.1.1.2.2.1 gX.1.1.2.2.2 gX.1.1.2.2.2,int i64 gX.1.1.1,
int i64 gX.1.2.1,int i64 gX.1.2.2,int i64 gX.2.1,
int i64 gX.2.2] ∧
x7 gX H5) ∧
∀(bW:((Int×(Option (Nat×Nat)×Nat)×Option (Nat×Nat)×Nat)×Int×Int)×Int×Int) (H7:AH),
x7 bW H7 →
∃(fF:(Int×(Option (Nat×Nat)×Nat)×Option (Nat×Nat)×Nat)×Int×Int→AH→Prop),
(bif bW.2.1 != (0:Int) then
[int i64 bW.1.2.2,int i64 bW.2.2,int i64 bW.1.1.1,int i64 0].length=4 ∧
∃(H8:AH),
(X none).wr
((X none).al H7
(cells [int i64 0,int i64 0,int i64 0,int i64 0] 54
{ whole:=true }))
((X none).n H7) 0 [int i64 bW.1.2.2,int i64 bW.2.2,int i64 bW.1.1.1,int i64 0] =
some H8 ∧
∃(vr:((Int×(Option (Nat×Nat)×Nat)×Option (Nat×Nat)×Nat)×Int×Int)×Nat→AH→Prop),
(bif bW.1.1.1 == (5:Int) then
[int i64 ((X none).wrap i64 (bW.2.1 - (1:Int)))].length=1 ∧
∃(H9:AH),
(X none).wr H8 ((X none).n H7) 3 [int i64 ((X none).wrap i64 (bW.2.1 - (1:Int)))]=some H9 ∧
∃(dN:((Int×(Option (Nat×Nat)×Nat)×Option (Nat×Nat)×Nat)×Int×Int)×Nat),
∃(_k20:Nat),
True ∧
[slice q k k,slice bW.1.1.2.1.1 bW.1.1.2.1.2 bW.1.1.2.1.2,
slice bW.1.1.2.2.1 bW.1.1.2.2.2 bW.1.1.2.2.2,int i64 bW.1.1.1,
int i64 bW.1.2.1,int i64 bW.2.2,ptr (some ((X none).n H7,0))] =
[slice q k k,slice dN.1.1.2.1.1 dN.1.1.2.1.2 dN.1.1.2.1.2,
slice dN.1.1.2.2.1 dN.1.1.2.2.2 dN.1.1.2.2.2,int i64 dN.1.1.1,
int i64 dN.1.2.1,int i64 dN.1.2.2,ptr (some (dN.2,0))] ∧
vr dN H9
else
∃(cr:((Int×(Option (Nat×Nat)×Nat)×Option (Nat×Nat)×Nat)×Int×Int)×Nat),
∃(_k21:Nat),
True ∧
[slice q k k,slice bW.1.1.2.1.1 bW.1.1.2.1.2 bW.1.1.2.1.2,
slice bW.1.1.2.2.1 bW.1.1.2.2.2 bW.1.1.2.2.2,int i64 bW.1.1.1,
int i64 bW.1.2.1,int i64 bW.2.2,ptr (some ((X none).n H7,0))] =
[slice q k k,slice cr.1.1.2.1.1 cr.1.1.2.1.2 cr.1.1.2.1.2,
slice cr.1.1.2.2.1 cr.1.1.2.2.2 cr.1.1.2.2.2,int i64 cr.1.1.1,
int i64 cr.1.2.1,int i64 cr.1.2.2,ptr (some (cr.2,0))] ∧
vr cr H8) ∧
∀(lN:((Int×(Option (Nat×Nat)×Nat)×Option (Nat×Nat)×Nat)×Int×Int)×Nat) (jd:AH),
vr lN jd →
∃(n5 n6 n7 n8:Int),
(X none).bC jd lN.2 0 4=some [int i64 n5,int i64 n6,int i64 n7,int i64 n8] ∧
(4≤16777216∧4=4∧0<4∧true=true∧true=true) ∧
∃(q2:Option (Nat×Nat)),
∃(pN rR:Nat),
∃(nT:AH),
(X none).app 22 22 (slice lN.1.1.2.2.1 lN.1.1.2.2.2 lN.1.1.2.2.2)
(slice (some ((X none).n jd,0)) 1 1)
((X none).al jd
(cells [int i64 n5,int i64 n6,int i64 n7,int i64 n8] 54
{ whole:=true })) =
some (slice q2 pN rR,nT) ∧
∃(lJ:(Int×(Option (Nat×Nat)×Nat)×Option (Nat×Nat)×Nat)×Int×Int),
∃(_k24:Nat),
True ∧
[slice q k k,slice lN.1.1.2.1.1 lN.1.1.2.1.2 lN.1.1.2.1.2,slice q2 pN rR,
int i64 lN.1.1.1,int i64 lN.1.2.1,int i64 lN.1.2.2] =
[slice q k k,slice lJ.1.2.1.1 lJ.1.2.1.2 lJ.1.2.1.2,
slice lJ.1.2.2.1 lJ.1.2.2.2 lJ.1.2.2.2,int i64 lJ.1.1,
int i64 lJ.2.1,int i64 lJ.2.2] ∧
fF lJ nT
else
∃(gW:(Int×(Option (Nat×Nat)×Nat)×Option (Nat×Nat)×Nat)×Int×Int),
∃(_k25:Nat),
True ∧
[slice q k k,slice bW.1.1.2.1.1 bW.1.1.2.1.2 bW.1.1.2.1.2,
slice bW.1.1.2.2.1 bW.1.1.2.2.2 bW.1.1.2.2.2,int i64 bW.1.1.1,int i64 bW.1.2.1,
int i64 bW.2.2] =
[slice q k k,slice gW.1.2.1.1 gW.1.2.1.2 gW.1.2.1.2,slice gW.1.2.2.1 gW.1.2.2.2 gW.1.2.2.2,
int i64 gW.1.1,int i64 gW.2.1,int i64 gW.2.2] ∧
fF gW H7) ∧
∀(gr:(Int×(Option (Nat×Nat)×Nat)×Option (Nat×Nat)×Nat)×Int×Int) (oK:AH),
fF gr oK →
∃(hU:(Int×(Option (Nat×Nat)×Nat)×Option (Nat×Nat)×Nat)×Int×Int),
∃(wR:Nat),
wR<k6 ∧
[slice q k k,slice gr.1.2.1.1 gr.1.2.1.2 gr.1.2.1.2,slice gr.1.2.2.1 gr.1.2.2.2 gr.1.2.2.2,
int i64 gr.1.1,int i64 gr.2.1,int i64 gr.2.2] =
[slice q k k,slice hU.1.2.1.1 hU.1.2.1.2 hU.1.2.1.2,slice hU.1.2.2.1 hU.1.2.2.2 hU.1.2.2.2,
int i64 hU.1.1,int i64 hU.2.1,int i64 hU.2.2] ∧
x4 hU oK wR
else
∃(q3:Option (Nat×Nat)),
∃(ny zK:Nat),
(X none).Hp 22 (slice x6.1.2.2.1 x6.1.2.2.2 x6.1.2.2.2) (some (int i64 x6.2.1)) none none H3=some (slice q3 ny zK) ∧
∃(fq:(Int×(Option (Nat×Nat)×Nat)×Option (Nat×Nat)×Nat)×(Option (Nat×Nat)×Nat×Nat)×Int×Int→AH→Nat→Prop),
(∃(cF:(Int×(Option (Nat×Nat)×Nat)×Option (Nat×Nat)×Nat)×(Option (Nat×Nat)×Nat×Nat)×Int×Int),
∃(FO:Nat),
[slice q k k,slice x6.1.2.1.1 x6.1.2.1.2 x6.1.2.1.2,slice x6.1.2.2.1 x6.1.2.2.2 x6.1.2.2.2,int i64 x6.1.1,
slice q3 ny zK,int i64 (↑ny:Int),int i64 0] =
[slice q k k,slice cF.1.2.1.1 cF.1.2.1.2 cF.1.2.1.2,slice cF.1.2.2.1 cF.1.2.2.2 cF.1.2.2.2,int i64 cF.1.1,
slice cF.2.1.1 cF.2.1.2.1 cF.2.1.2.2,int i64 cF.2.2.1,int i64 cF.2.2.2] ∧
fq cF H3 FO) ∧
∀(ct:(Int×(Option (Nat×Nat)×Nat)×Option (Nat×Nat)×Nat)×(Option (Nat×Nat)×Nat×Nat)×Int×Int) (nw:AH) (FN:Nat),
fq ct nw FN →
bif decide (ct.2.2.2<ct.2.2.1) then
∃(IM IL:Nat),
(ct.2.1.1=some (IM,IL)∧(0:Int)≤ct.2.2.2∧ct.2.2.2<(↑ct.2.1.2.1:Int)) ∧
∃(n9 eK iC j6:Int),
(X none).bC nw IM (IL+ct.2.2.2.toNat*4) 4=some [int i64 n9,int i64 eK,int i64 iC,int i64 j6] ∧
[int i64 n9,int i64 eK,int i64 iC,int i64 j6].length=4 ∧
∃(xH:AH),
(X none).wr
((X none).al nw
(cells [int i64 0,int i64 0,int i64 0,int i64 0] 54 { whole:=true }))
((X none).n nw) 0 [int i64 n9,int i64 eK,int i64 iC,int i64 j6] =
some xH ∧
∃(kO:Int),
(X none).aM xH ((X none).n nw) 0=some (int i64 kO) ∧
∃(lD:Int),
(X none).aM xH ((X none).n nw) 1=some (int i64 lD) ∧
∃(IK IJ:Nat),
(ct.1.2.1.1=some (IK,IJ)∧(0:Int)≤kO∧kO<(↑ct.1.2.1.2:Int)) ∧
1=1 ∧
∃(nv:AH),
(X none).wr xH IK (IJ+kO.toNat*1) [bool true]=some nv ∧
(∃(pI:Int),(X none).aM nv ((X none).n nw) 1=some (int i64 pI)∧int i64 pI=int i64 lD) ∧
∃(GI GH:Nat),
(ct.1.2.1.1=some (GI,GH)∧(0:Int)≤lD∧lD<(↑ct.1.2.1.2:Int)) ∧
1=1 ∧
∃(xG:AH),
(X none).wr nv GI (GH+lD.toNat*1) [bool true]=some xG ∧
∃(gF:(Int×(Option (Nat×Nat)×Nat)×Option (Nat×Nat)×Nat)×(Option (Nat×Nat)×Nat×Nat)×Int×Int),
∃(MS:Nat),
MS<FN ∧
[slice q k k,slice ct.1.2.1.1 ct.1.2.1.2 ct.1.2.1.2,
slice ct.1.2.2.1 ct.1.2.2.2 ct.1.2.2.2,int i64 ct.1.1,
slice ct.2.1.1 ct.2.1.2.1 ct.2.1.2.2,int i64 ct.2.2.1,
int i64 ((X none).wrap i64 (ct.2.2.2+(1:Int)))] =
[slice q k k,slice gF.1.2.1.1 gF.1.2.1.2 gF.1.2.1.2,
slice gF.1.2.2.1 gF.1.2.2.2 gF.1.2.2.2,int i64 gF.1.1,
slice gF.2.1.1 gF.2.1.2.1 gF.2.1.2.2,int i64 gF.2.2.1,
int i64 gF.2.2.2] ∧
fq gF xG MS
else
∃(jU:Int×(Option (Nat×Nat)×Nat)×Option (Nat×Nat)×Nat),
∃(MQ:Nat),
MQ<k4 ∧
[slice q k k,slice ct.1.2.1.1 ct.1.2.1.2 ct.1.2.1.2,slice ct.1.2.2.1 ct.1.2.2.2 ct.1.2.2.2,
int i64 ((X none).wrap i64 (ct.1.1+(1:Int)))] =
[slice q k k,slice jU.2.1.1 jU.2.1.2 jU.2.1.2,slice jU.2.2.1 jU.2.2.2 jU.2.2.2,int i64 jU.1] ∧
x1 jU nw MQ
else (X none).call 127 [slice x3.2.2.1 x3.2.2.2 x3.2.2.2,AV.func (Fn.func 147) [] []] H2 fun (_v3:AV) (G3:AH)=>Q (slice x3.2.2.1 x3.2.2.2 x3.2.2.2) G3):=by kernel_rfl
theorem IB (X:aO) (q:Option (Nat×Nat)) (k c:Nat) (H:AH) (Q:AV→AH→Prop) (I1:Int×Option (Nat×Nat)×Nat→AH→Nat→Prop) (I2:Int×(Option (Nat×Nat)×Nat)×(Option (Nat×Nat)×Nat)→AH→Nat→Prop):(fG X Tryz.prog [⟨3,Int×Option (Nat×Nat)×Nat,[0,2,3,4,11,12,13],fun x=>[.slice q k c,.ptr (some (X.n H,0)),.int .i64 0,.slice x.2.1 x.2.2 x.2.2,.slice q k c,.int .i64 k,.int .i64 x.1],I1⟩,⟨11,Int×(Option (Nat×Nat)×Nat)×(Option (Nat×Nat)×Nat),[2,3,4,7,30,31,32],fun x=>[.ptr (some (X.n H,0)),.int .i64 0,.slice x.2.1.1 x.2.1.2 x.2.1.2,.slice x.2.2.1 x.2.2.2 x.2.2.2,.slice q k c,.int .i64 k,.int .i64 x.1],I2⟩] 28 [.slice q k c] H Q) =
((∃(x1:Int×Option (Nat×Nat)×Nat),
∃(k1:Nat),
[slice q k c,ptr (some (X.n H,(0:Nat))),int i64 0,slice none (0:Nat) (0:Nat),slice q k c,int i64 (↑k:Int),int i64 0] =
[slice q k c,ptr (some (X.n H,(0:Nat))),int i64 0,slice x1.2.1 x1.2.2 x1.2.2,slice q k c,int i64 (↑k:Int),int i64 x1.1] ∧
I1 x1 (X.al H (cells [str [],slice none 0 0] 24 { whole:=true })) k1) ∧
∀(x2:Int×Option (Nat×Nat)×Nat) (H1:AH) (k2:Nat),
I1 x2 H1 k2 →
bif decide (x2.1<(↑k:Int)) then
∃(k3 k4:Nat),
(q=some (k3,k4)∧(0:Int)≤x2.1∧x2.1<(↑k:Int)) ∧
∃(s1:List UInt8),
∃(b1 b2 b3 b4:Bool),
∃(n1:Int),
X.bC H1 k3 (k4+x2.1.toNat*6) 6=some [str s1,bool b1,bool b2,bool b3,bool b4,int i64 n1] ∧
[str s1,bool b1,bool b2,bool b3,bool b4,int i64 n1].length=6 ∧
∃(H2:AH),
X.wr (X.al H1 (cells [str [],bool false,bool false,bool false,bool false,int i64 0] 65 { whole:=true })) (X.n H1) 0
[str s1,bool b1,bool b2,bool b3,bool b4,int i64 n1] =
some H2 ∧
∃(s2:List UInt8),
X.aM H2 (X.n H1) 0=some (str s2) ∧
bif decide (X.wrap i64 ((↑x2.2.2:Int)+(↑s2.length:Int)) > (4096:Int)) then
[str [],slice none 0 0].length=2 ∧
∃(H3:AH),
X.wr H2 (X.n H) 0 [str [],slice none 0 0]=some H3 ∧
∃(s3:List UInt8),
∃(q1:Option (Nat×Nat)),
∃(k5:Nat),∃(k6:Nat),X.bC H3 (X.n H) 0 2=some [str s3,slice q1 k5 k6]∧Q (tuple [agg [str s3,slice q1 k5 k6],int i64 3]) H3
else
∃(s4:List UInt8),
X.aM H2 (X.n H1) 0=some (str s4) ∧
∃(q2:Option (Nat×Nat)),
∃(k7 k8:Nat),
∃(H4:AH),
X.app 94 9 (slice x2.2.1 x2.2.2 x2.2.2) (str s4) H2=some (slice q2 k7 k8,H4) ∧
∃(x3:Int×Option (Nat×Nat)×Nat),
∃(k9:Nat),
k9<k2 ∧
[slice q k c,ptr (some (X.n H,(0:Nat))),int i64 0,slice q2 k7 k8,slice q k c,int i64 (↑k:Int),
int i64 (X.wrap i64 (x2.1+(1:Int)))] =
[slice q k c,ptr (some (X.n H,(0:Nat))),int i64 0,slice x3.2.1 x3.2.2 x3.2.2,slice q k c,int i64 (↑k:Int),
int i64 x3.1] ∧
I1 x3 H4 k9
else
(∃(x4:Int×(Option (Nat×Nat)×Nat)×Option (Nat×Nat)×Nat),
∃(jb:Nat),
[ptr (some (X.n H,(0:Nat))),int i64 0,slice x2.2.1 x2.2.2 x2.2.2,slice none (0:Nat) (0:Nat),slice q k c,int i64 (↑k:Int),int i64 0] =
[ptr (some (X.n H,(0:Nat))),int i64 0,slice x4.2.1.1 x4.2.1.2 x4.2.1.2,slice x4.2.2.1 x4.2.2.2 x4.2.2.2,slice q k c,int i64 (↑k:Int),
int i64 x4.1] ∧
I2 x4 H1 jb) ∧
∀(x5:Int×(Option (Nat×Nat)×Nat)×Option (Nat×Nat)×Nat) (H5:AH) (fN:Nat),
I2 x5 H5 fN →
bif decide (x5.1<(↑k:Int)) then
∃(iq jM:Nat),
(q=some (iq,jM)∧(0:Int)≤x5.1∧x5.1<(↑k:Int)) ∧
∃(s5:List UInt8),
∃(b5 b6 b7 b8:Bool),
∃(n2:Int),
X.bC H5 iq (jM+x5.1.toNat*6) 6=some [str s5,bool b5,bool b6,bool b7,bool b8,int i64 n2] ∧
[str s5,bool b5,bool b6,bool b7,bool b8,int i64 n2].length=6 ∧
∃(H6:AH),
X.wr (X.al H5 (cells [str [],bool false,bool false,bool false,bool false,int i64 0] 65 { whole:=true })) (X.n H5) 0
[str s5,bool b5,bool b6,bool b7,bool b8,int i64 n2] =
some H6 ∧
bif decide ((↑x5.2.2.2:Int) > (0:Int)) == true then
∃(iD jr:Nat),
(x5.2.2.1=some (iD,jr)∧(0:Int)≤X.wrap i64 ((↑x5.2.2.2:Int) - (1:Int))∧X.wrap i64 ((↑x5.2.2.2:Int) - (1:Int))<(↑x5.2.2.2:Int)) ∧
∃(b9 BF G0 GZ:Bool),
∃(n3:Int),
X.bC H6 iD (jr+(X.wrap i64 ((↑x5.2.2.2:Int) - (1:Int))).toNat*(7:Nat)+(2:Nat)) (5:Nat) =
some [bool b9,bool BF,bool G0,bool GZ,int i64 n3] ∧
∃(GY Mp Ko Km:Bool),
∃(n4:Int),
X.bC H6 (X.n H5) 1 5=some [bool GY,bool Mp,bool Ko,bool Km,int i64 n4] ∧
bif b9 == GY && (BF == Mp && (G0 == Ko && (GZ == Km && (n3 == n4 && true)))) then
∃(m6 jq:Nat),
(x5.2.2.1=some (m6,jq) ∧
(0:Int)≤X.wrap i64 ((↑x5.2.2.2:Int) - (1:Int))∧X.wrap i64 ((↑x5.2.2.2:Int) - (1:Int))<(↑x5.2.2.2:Int)) ∧
∃(n5:Int),
X.aM H6 m6 (jq+(X.wrap i64 ((↑x5.2.2.2:Int) - (1:Int))).toNat*(7:Nat)+(1:Nat))=some (int i64 n5) ∧
∃(lK sB:Nat),
(x5.2.2.1=some (lK,sB) ∧
(0:Int)≤X.wrap i64 ((↑x5.2.2.2:Int) - (1:Int)) ∧
X.wrap i64 ((↑x5.2.2.2:Int) - (1:Int))<(↑x5.2.2.2:Int)) ∧
[int i64 (X.wrap i64 (n5+(1:Int)))].length=1 ∧
∃(H7:AH),
X.wr H6 lK (sB+(X.wrap i64 ((↑x5.2.2.2:Int) - (1:Int))).toNat*(7:Nat)+(1:Nat))
[int i64 (X.wrap i64 (n5+(1:Int)))] =
some H7 ∧
∃(x6:Int×(Option (Nat×Nat)×Nat)×Option (Nat×Nat)×Nat),
∃(zL:Nat),
zL<fN ∧
[ptr (some (X.n H,0)),int i64 0,slice x5.2.1.1 x5.2.1.2 x5.2.1.2,
slice x5.2.2.1 x5.2.2.2 x5.2.2.2,slice q k c,int i64 (↑k:Int),
int i64 (X.wrap i64 (x5.1+(1:Int)))] =
[ptr (some (X.n H,0)),int i64 0,slice x6.2.1.1 x6.2.1.2 x6.2.1.2,
slice x6.2.2.1 x6.2.2.2 x6.2.2.2,slice q k c,int i64 (↑k:Int),int i64 x6.1] ∧
I2 x6 H7 zL
else
∃(Kl Kk Kj Ki:Bool),
∃(n6:Int),
X.bC H6 (X.n H5) 1 5=some [bool Kl,bool Kk,bool Kj,bool Ki,int i64 n6] ∧
(7≤16777216∧7=7∧0<7∧true=true∧true=true) ∧
∃(q3:Option (Nat×Nat)),
∃(qA pN:Nat),
∃(H8:AH),
X.app 112 112 (slice x5.2.2.1 x5.2.2.2 x5.2.2.2)
(slice (some (X.n H6,0)) 1 1)
(X.al H6
(cells
[int i64 x5.1,int i64 (X.wrap i64 (x5.1+(1:Int))),bool Kl,bool Kk,bool Kj,
bool Ki,int i64 n6]
114 { whole:=true })) =
some (slice q3 qA pN,H8) ∧
∃(x7:Int×(Option (Nat×Nat)×Nat)×Option (Nat×Nat)×Nat),
∃(rR:Nat),
rR<fN ∧
[ptr (some (X.n H,0)),int i64 0,slice x5.2.1.1 x5.2.1.2 x5.2.1.2,
slice q3 qA pN,slice q k c,int i64 (↑k:Int),
int i64 (X.wrap i64 (x5.1+(1:Int)))] =
[ptr (some (X.n H,0)),int i64 0,slice x7.2.1.1 x7.2.1.2 x7.2.1.2,
slice x7.2.2.1 x7.2.2.2 x7.2.2.2,slice q k c,int i64 (↑k:Int),
int i64 x7.1] ∧
I2 x7 H8 rR
else
∃(Kh Kg Kf Ke:Bool),
∃(n7:Int),
X.bC H6 (X.n H5) 1 5=some [bool Kh,bool Kg,bool Kf,bool Ke,int i64 n7] ∧
(7≤16777216∧7=7∧0<7∧true=true∧true=true) ∧
∃(q4:Option (Nat×Nat)),
∃(vL FP:Nat),
∃(H9:AH),
X.app 112 112 (slice x5.2.2.1 x5.2.2.2 x5.2.2.2) (slice (some (X.n H6,0)) 1 1)
(X.al H6
(cells
[int i64 x5.1,int i64 (X.wrap i64 (x5.1+(1:Int))),bool Kh,bool Kg,bool Kf,bool Ke,int i64 n7]
114 { whole:=true })) =
some (slice q4 vL FP,H9) ∧
∃(x8:Int×(Option (Nat×Nat)×Nat)×Option (Nat×Nat)×Nat),
∃(wR:Nat),
wR<fN ∧
[ptr (some (X.n H,0)),int i64 0,slice x5.2.1.1 x5.2.1.2 x5.2.1.2,slice q4 vL FP,slice q k c,
int i64 (↑k:Int),int i64 (X.wrap i64 (x5.1+(1:Int)))] =
[ptr (some (X.n H,0)),int i64 0,slice x8.2.1.1 x8.2.1.2 x8.2.1.2,
slice x8.2.2.1 x8.2.2.2 x8.2.2.2,slice q k c,int i64 (↑k:Int),int i64 x8.1] ∧
I2 x8 H9 wR
else
∃(s6:List UInt8),
X.str (slice x5.2.1.1 x5.2.1.2 x5.2.1.2) H5=some s6 ∧
X.call 63 [str s6,slice x5.2.2.1 x5.2.2.2 x5.2.2.2] H5 fun (v1:AV) (jd:AH) =>
∃(s7:List UInt8),
∃(q5:Option (Nat×Nat)),
∃(ny zK:Nat),
∃(n8:Int),
v1=tuple [agg [str s7,slice q5 ny zK],int i64 n8] ∧
[str s7,slice q5 ny zK].length=2 ∧
∃(nT:AH),
X.wr jd (X.n H) 0 [str s7,slice q5 ny zK]=some nT ∧
∃(s8:List UInt8),
∃(q6:Option (Nat×Nat)),
∃(FO:Nat),∃(FN:Nat),X.bC nT (X.n H) 0 2=some [str s8,slice q6 FO FN]∧Q (tuple [agg [str s8,slice q6 FO FN],int i64 n8]) nT):=by kernel_rfl
end Go.Proofs.YtlkdhhkncoekgaaGreatDoor
