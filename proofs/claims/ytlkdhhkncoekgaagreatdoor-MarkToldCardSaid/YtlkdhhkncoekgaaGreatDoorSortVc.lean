/- What functions ask (printed). -/
import Derived.Test.YtlkdhhkncoekgaaGreatDoorAmTri
import Derived.Test.YtlkdhhkncoekgaaGreatDoorTabs
namespace Go.Proofs.YtlkdhhkncoekgaaGreatDoor
open Go.Am Go
open _root_.Go.Am.AV (int slice ptr str bool agg tuple)
open _root_.Go.IntKind (i64 i32 u8 u64)
open _root_.Go.Am.aY (cells)
theorem He (X:Option Nat→aO) (It:FuncId→List AV→List AV→(AH→Prop)→List (List AV)→Prop) (bk n:Nat) (a b m:Int) (g:Nat) (hg:g=147∨g=128) (H:AH) (Q:AV→AH→Prop):(nx X It Tryz.prog [⟨1,Int,[0,1,2,3,10],fun x=>[.slice (some (bk,0)) n n,.int .i64 a,.int .i64 b,.int .i64 m,.int .i64 x],fun _ _ _=>True⟩] [] 176 [.slice (some (bk,0)) n n,.int .i64 a,.int .i64 b,.int .i64 m,.func (.func g) [] []] H Q) =
(∃(x1:Int→AH→Nat→Prop),
(∃(n1:Int),
∃(k1:Nat),
[slice (some (bk,0)) n n,int i64 a,int i64 b,int i64 m,int i64 0] =
[slice (some (bk,0)) n n,int i64 a,int i64 b,int i64 m,int i64 n1] ∧
x1 n1 H k1) ∧
∀(n2:Int) (H1:AH) (k2:Nat),
x1 n2 H1 k2 →
bif decide (n2<m) then
∃(k3 k4:Nat),
(some (bk,(0:Nat))=some (k3,k4)∧(0:Int)≤(X none).wrap i64 (b+n2)∧(X none).wrap i64 (b+n2)<(↑n:Int)) ∧
∃(n3 n4 n5 n6:Int),
(X none).bC H1 k3 (k4+((X none).wrap i64 (b+n2)).toNat*4) 4=some [int i64 n3,int i64 n4,int i64 n5,int i64 n6] ∧
∃(k5 k6:Nat),
(some (bk,(0:Nat))=some (k5,k6)∧(0:Int)≤(X none).wrap i64 (a+n2)∧(X none).wrap i64 (a+n2)<(↑n:Int)) ∧
∃(n7 n8 n9 eK:Int),
(X none).bC H1 k5 (k6+((X none).wrap i64 (a+n2)).toNat*4) 4=some [int i64 n7,int i64 n8,int i64 n9,int i64 eK] ∧
∃(k7 k8:Nat),
(some (bk,(0:Nat))=some (k7,k8)∧(0:Int)≤(X none).wrap i64 (a+n2)∧(X none).wrap i64 (a+n2)<(↑n:Int)) ∧
[int i64 n3,int i64 n4,int i64 n5,int i64 n6].length=4 ∧
∃(H2:AH),
(X none).wr H1 k7 (k8+((X none).wrap i64 (a+n2)).toNat*4) [int i64 n3,int i64 n4,int i64 n5,int i64 n6]=some H2 ∧
∃(k9 jb:Nat),
(some (bk,(0:Nat))=some (k9,jb)∧(0:Int)≤(X none).wrap i64 (b+n2)∧(X none).wrap i64 (b+n2)<(↑n:Int)) ∧
[int i64 n7,int i64 n8,int i64 n9,int i64 eK].length=4 ∧
∃(H3:AH),
(X none).wr H2 k9 (jb+((X none).wrap i64 (b+n2)).toNat*4) [int i64 n7,int i64 n8,int i64 n9,int i64 eK] =
some H3 ∧
∃(iC:Int),
∃(fN:Nat),
fN<k2 ∧
[slice (some (bk,0)) n n,int i64 a,int i64 b,int i64 m,
int i64 ((X none).wrap i64 (n2+(1:Int)))] =
[slice (some (bk,0)) n n,int i64 a,int i64 b,int i64 m,int i64 iC] ∧
x1 iC H3 fN
else Q (tuple []) H1):=by rcases hg with rfl | rfl <;> kernel_rfl
theorem Ff (X:Option Nat→aO) (It:FuncId→List AV→List AV→(AH→Prop)→List (List AV)→Prop) (bk n:Nat) (a m b:Int) (g:Nat) (hg:g=147∨g=128) (H:AH) (Q:AV→AH→Prop):(nx X It Tryz.prog [⟨2,Int×Int,[0,1,2,3,4,10,11],fun x=>[.slice (some (bk,0)) n n,.int .i64 a,.int .i64 m,.int .i64 b,.func (.func g) [] [],.int .i64 x.1,.int .i64 x.2],fun _ _ _=>True⟩] [] 169 [.slice (some (bk,0)) n n,.int .i64 a,.int .i64 m,.int .i64 b,.func (.func g) [] []] H Q) =
(∃(x1:Int×Int→AH→Nat→Prop),
(∃(x2:Int×Int),
∃(k1:Nat),
[slice (some (bk,0)) n n,int i64 a,int i64 m,int i64 b,AV.func (Fn.func (g:FuncId)) [] [],int i64 ((X none).wrap i64 (m - a)),
int i64 ((X none).wrap i64 (b - m))] =
[slice (some (bk,0)) n n,int i64 a,int i64 m,int i64 b,AV.func (Fn.func (g:FuncId)) [] [],int i64 x2.1,int i64 x2.2] ∧
x1 x2 H k1) ∧
∀(x3:Int×Int) (H1:AH) (k2:Nat),
x1 x3 H1 k2 →
bif x3.1 != x3.2 then
bif decide (x3.1 > x3.2) then
(X none).call 176 [slice (some (bk,0)) n n,int i64 ((X none).wrap i64 (m - x3.1)),int i64 m,int i64 x3.2,AV.func (Fn.func (g:FuncId)) [] []] H1
fun (_v1:AV) (H2:AH) =>
∃(x4:Int×Int),
∃(k3:Nat),
k3<k2 ∧
[slice (some (bk,0)) n n,int i64 a,int i64 m,int i64 b,AV.func (Fn.func (g:FuncId)) [] [],int i64 ((X none).wrap i64 (x3.1 - x3.2)),
int i64 x3.2] =
[slice (some (bk,0)) n n,int i64 a,int i64 m,int i64 b,AV.func (Fn.func (g:FuncId)) [] [],int i64 x4.1,int i64 x4.2] ∧
x1 x4 H2 k3
else
(X none).call 176
[slice (some (bk,0)) n n,int i64 ((X none).wrap i64 (m - x3.1)),int i64 ((X none).wrap i64 ((X none).wrap i64 (m+x3.2) - x3.1)),int i64 x3.1,
AV.func (Fn.func (g:FuncId)) [] []]
H1 fun (_v2:AV) (H3:AH) =>
∃(x5:Int×Int),
∃(k4:Nat),
k4<k2 ∧
[slice (some (bk,0)) n n,int i64 a,int i64 m,int i64 b,AV.func (Fn.func (g:FuncId)) [] [],int i64 x3.1,
int i64 ((X none).wrap i64 (x3.2 - x3.1))] =
[slice (some (bk,0)) n n,int i64 a,int i64 m,int i64 b,AV.func (Fn.func (g:FuncId)) [] [],int i64 x5.1,int i64 x5.2] ∧
x1 x5 H3 k4
else
(X none).call 176 [slice (some (bk,0)) n n,int i64 ((X none).wrap i64 (m - x3.1)),int i64 m,int i64 x3.1,AV.func (Fn.func (g:FuncId)) [] []] H1
fun (_v3:AV) (H4:AH)=>Q (tuple []) H4):=by rcases hg with rfl | rfl <;> kernel_rfl
theorem FR (X:Option Nat→aO) (It:FuncId→List AV→List AV→(AH→Prop)→List (List AV)→Prop) (bk n:Nat) (a b:Int) (g:Nat) (hg:g=147∨g=128) (H:AH) (Q:AV→AH→Prop):(nx X It Tryz.prog [⟨1,Int,[0,1,2,3,8],fun x=>[.slice (some (bk,0)) n n,.int .i64 a,.int .i64 b,.func (.func g) [] [],.int .i64 x],fun _ _ _=>True⟩,⟨4,Int×Int,[0,1,2,3,8,9],fun x=>[.slice (some (bk,0)) n n,.int .i64 a,.int .i64 b,.func (.func g) [] [],.int .i64 x.1,.int .i64 x.2],fun _ _ _=>True⟩] [] 160 [.slice (some (bk,0)) n n,.int .i64 a,.int .i64 b,.func (.func g) [] []] H Q) =
(∃(x1:Int→AH→Nat→Prop),
(∃(n1:Int),
∃(k1:Nat),
[slice (some (bk,0)) n n,int i64 a,int i64 b,AV.func (Fn.func (g:FuncId)) [] [],int i64 ((X none).wrap i64 (a+(1:Int)))] =
[slice (some (bk,0)) n n,int i64 a,int i64 b,AV.func (Fn.func (g:FuncId)) [] [],int i64 n1] ∧
x1 n1 H k1) ∧
∀(n2:Int) (H1:AH) (k2:Nat),
x1 n2 H1 k2 →
bif decide (n2<b) then
∃(x2:Int×Int→AH→Nat→Prop),
(∃(x3:Int×Int),
∃(k3:Nat),
[slice (some (bk,0)) n n,int i64 a,int i64 b,AV.func (Fn.func (g:FuncId)) [] [],int i64 n2,int i64 n2] =
[slice (some (bk,0)) n n,int i64 a,int i64 b,AV.func (Fn.func (g:FuncId)) [] [],int i64 x3.1,int i64 x3.2] ∧
x2 x3 H1 k3) ∧
∀(x4:Int×Int) (H2:AH) (k4:Nat),
x2 x4 H2 k4 →
bif decide (x4.2 > a) == true then
∃(k5 k6:Nat),
(some (bk,(0:Nat))=some (k5,k6)∧(0:Int)≤x4.2∧x4.2<(↑n:Int)) ∧
∃(n3 n4 n5 n6:Int),
(X none).bC H2 k5 (k6+x4.2.toNat*4) 4=some [int i64 n3,int i64 n4,int i64 n5,int i64 n6] ∧
∃(k7 k8:Nat),
(some (bk,(0:Nat))=some (k7,k8)∧(0:Int)≤(X none).wrap i64 (x4.2 - (1:Int))∧(X none).wrap i64 (x4.2 - (1:Int))<(↑n:Int)) ∧
∃(n7 n8 n9 eK:Int),
(X none).bC H2 k7 (k8+((X none).wrap i64 (x4.2 - (1:Int))).toNat*4) 4 =
some [int i64 n7,int i64 n8,int i64 n9,int i64 eK] ∧
(X none).call (g:FuncId)
[agg [int i64 n3,int i64 n4,int i64 n5,int i64 n6],
agg [int i64 n7,int i64 n8,int i64 n9,int i64 eK]]
H2 fun (v1:AV) (H3:AH) =>
∃(iC:Int),
v1=int i64 iC ∧
bif decide (iC<(0:Int)) then
∃(k9 jb:Nat),
(some (bk,(0:Nat))=some (k9,jb)∧(0:Int)≤(X none).wrap i64 (x4.2 - (1:Int))∧(X none).wrap i64 (x4.2 - (1:Int))<(↑n:Int)) ∧
∃(j6 kO lD pI:Int),
(X none).bC H3 k9 (jb+((X none).wrap i64 (x4.2 - (1:Int))).toNat*4) 4 =
some [int i64 j6,int i64 kO,int i64 lD,int i64 pI] ∧
∃(fN iq:Nat),
(some (bk,(0:Nat))=some (fN,iq)∧(0:Int)≤x4.2∧x4.2<(↑n:Int)) ∧
∃(qt sX vt yL:Int),
(X none).bC H3 fN (iq+x4.2.toNat*4) 4 =
some [int i64 qt,int i64 sX,int i64 vt,int i64 yL] ∧
∃(jM iD:Nat),
(some (bk,(0:Nat))=some (jM,iD)∧(0:Int)≤x4.2∧x4.2<(↑n:Int)) ∧
[int i64 j6,int i64 kO,int i64 lD,int i64 pI].length=4 ∧
∃(H4:AH),
(X none).wr H3 jM (iD+x4.2.toNat*4)
[int i64 j6,int i64 kO,int i64 lD,int i64 pI] =
some H4 ∧
∃(jr m6:Nat),
(some (bk,0)=some (jr,m6) ∧
(0:Int)≤(X none).wrap i64 (x4.2 - (1:Int))∧(X none).wrap i64 (x4.2 - (1:Int))<(↑n:Int)) ∧
[int i64 qt,int i64 sX,int i64 vt,int i64 yL].length=4 ∧
∃(H5:AH),
(X none).wr H4 jr (m6+((X none).wrap i64 (x4.2 - (1:Int))).toNat*4)
[int i64 qt,int i64 sX,int i64 vt,int i64 yL] =
some H5 ∧
∃(x5:Int×Int),
∃(jq:Nat),
jq<k4 ∧
[slice (some (bk,0)) n n,int i64 a,int i64 b,
AV.func (Fn.func (g:FuncId)) [] [],int i64 x4.1,
int i64 ((X none).wrap i64 (x4.2 - (1:Int)))] =
[slice (some (bk,0)) n n,int i64 a,int i64 b,
AV.func (Fn.func (g:FuncId)) [] [],int i64 x5.1,int i64 x5.2] ∧
x2 x5 H5 jq
else
∃(wJ:Int),
∃(lK:Nat),
lK<k2 ∧
[slice (some (bk,0)) n n,int i64 a,int i64 b,AV.func (Fn.func (g:FuncId)) [] [],
int i64 ((X none).wrap i64 (x4.1+(1:Int)))] =
[slice (some (bk,0)) n n,int i64 a,int i64 b,AV.func (Fn.func (g:FuncId)) [] [],int i64 wJ] ∧
x1 wJ H3 lK
else
∃(BQ:Int),
∃(sB:Nat),
sB<k2 ∧
[slice (some (bk,0)) n n,int i64 a,int i64 b,AV.func (Fn.func (g:FuncId)) [] [],int i64 ((X none).wrap i64 (x4.1+(1:Int)))] =
[slice (some (bk,0)) n n,int i64 a,int i64 b,AV.func (Fn.func (g:FuncId)) [] [],int i64 BQ] ∧
x1 BQ H2 sB
else Q (tuple []) H1):=by rcases hg with rfl | rfl <;> kernel_rfl
theorem zV (X:Option Nat→aO) (It:FuncId→List AV→List AV→(AH→Prop)→List (List AV)→Prop) (bk n:Nat) (a m b:Int) (g:Nat) (hg:g=147∨g=128) (H:AH) (Q:AV→AH→Prop):(nx X It Tryz.prog [⟨3,Int×Int,[0,1,2,3,4,10,11],fun x=>[.slice (some (bk,0)) n n,.int .i64 a,.int .i64 m,.int .i64 b,.func (.func g) [] [],.int .i64 x.1,.int .i64 x.2],fun _ _ _=>True⟩,⟨9,Int×Int,[0,1,2,3,4,10,13],fun x=>[.slice (some (bk,0)) n n,.int .i64 a,.int .i64 m,.int .i64 b,.func (.func g) [] [],.int .i64 x.1,.int .i64 x.2],fun _ _ _=>True⟩,⟨15,Int×Int,[0,1,2,3,4,14,15],fun x=>[.slice (some (bk,0)) n n,.int .i64 a,.int .i64 m,.int .i64 b,.func (.func g) [] [],.int .i64 x.1,.int .i64 x.2],fun _ _ _=>True⟩,⟨21,Int×Int,[0,1,2,3,4,14,17],fun x=>[.slice (some (bk,0)) n n,.int .i64 a,.int .i64 m,.int .i64 b,.func (.func g) [] [],.int .i64 x.1,.int .i64 x.2],fun _ _ _=>True⟩,⟨200032,Int×Int×Int×Int,[0,1,2,3,4,18,19,20,21],fun x=>[.slice (some (bk,0)) n n,.int .i64 a,.int .i64 m,.int .i64 b,.func (.func g) [] [],.int .i64 x.1,.int .i64 x.2.1,.int .i64 x.2.2.1,.int .i64 x.2.2.2],fun _ _ _=>True⟩,⟨33,Int×Int×Int×Int×Int,[0,1,2,3,4,18,19,20,21,22],fun x=>[.slice (some (bk,0)) n n,.int .i64 a,.int .i64 m,.int .i64 b,.func (.func g) [] [],.int .i64 x.1,.int .i64 x.2.1,.int .i64 x.2.2.1,.int .i64 x.2.2.2.1,.int .i64 x.2.2.2.2],fun _ _ _=>True⟩,⟨200041,Int×Int×Int,[0,1,2,3,4,18,20,24],fun x=>[.slice (some (bk,0)) n n,.int .i64 a,.int .i64 m,.int .i64 b,.func (.func g) [] [],.int .i64 x.1,.int .i64 x.2.1,.int .i64 x.2.2],fun _ _ _=>True⟩,⟨200043,Int×Int×Int,[0,1,2,3,4,18,20,24],fun x=>[.slice (some (bk,0)) n n,.int .i64 a,.int .i64 m,.int .i64 b,.func (.func g) [] [],.int .i64 x.1,.int .i64 x.2.1,.int .i64 x.2.2],fun _ _ _=>True⟩] [] 161 [.slice (some (bk,0)) n n,.int .i64 a,.int .i64 m,.int .i64 b,.func (.func g) [] []] H Q) =
(bif (X none).wrap i64 (m - a) == (1:Int) then
∃(x1:Int×Int→AH→Nat→Prop),
(∃(x2:Int×Int),
∃(k1:Nat),
[slice (some (bk,0)) n n,int i64 a,int i64 m,int i64 b,AV.func (Fn.func (g:FuncId)) [] [],int i64 m,int i64 b] =
[slice (some (bk,0)) n n,int i64 a,int i64 m,int i64 b,AV.func (Fn.func (g:FuncId)) [] [],int i64 x2.1,int i64 x2.2] ∧
x1 x2 H k1) ∧
∀(x3:Int×Int) (H1:AH) (k2:Nat),
x1 x3 H1 k2 →
bif decide (x3.1<x3.2) then
(0:Int)≤(1:Int) ∧
∃(k3 k4:Nat),
(some (bk,0)=some (k3,k4) ∧
(0:Int)≤(X none).wrap i64 (((X none).wrap u64 ((X none).wrap i64 (x3.1+x3.2))).fdiv (2:Int)) ∧
(X none).wrap i64 (((X none).wrap u64 ((X none).wrap i64 (x3.1+x3.2))).fdiv (2:Int))<(↑n:Int)) ∧
∃(n1 n2 n3 n4:Int),
(X none).bC H1 k3 (k4+((X none).wrap i64 (((X none).wrap u64 ((X none).wrap i64 (x3.1+x3.2))).fdiv (2:Int))).toNat*4) 4 =
some [int i64 n1,int i64 n2,int i64 n3,int i64 n4] ∧
∃(k5 k6:Nat),
(some (bk,(0:Nat))=some (k5,k6)∧(0:Int)≤a∧a<(↑n:Int)) ∧
∃(n5 n6 n7 n8:Int),
(X none).bC H1 k5 (k6+a.toNat*4) 4=some [int i64 n5,int i64 n6,int i64 n7,int i64 n8] ∧
(X none).call (g:FuncId)
[agg [int i64 n1,int i64 n2,int i64 n3,int i64 n4],
agg [int i64 n5,int i64 n6,int i64 n7,int i64 n8]]
H1 fun (v1:AV) (H2:AH) =>
∃(n9:Int),
v1=int i64 n9 ∧
bif decide (n9<(0:Int)) then
∃(x4:Int×Int),
∃(k7:Nat),
k7<k2 ∧
[slice (some (bk,0)) n n,int i64 a,int i64 m,int i64 b,AV.func (Fn.func (g:FuncId)) [] [],
int i64
((X none).wrap i64 ((X none).wrap i64 (((X none).wrap u64 ((X none).wrap i64 (x3.1+x3.2))).fdiv (2:Int))+(1:Int))),
int i64 x3.2] =
[slice (some (bk,0)) n n,int i64 a,int i64 m,int i64 b,AV.func (Fn.func (g:FuncId)) [] [],int i64 x4.1,
int i64 x4.2] ∧
x1 x4 H2 k7
else
∃(x5:Int×Int),
∃(k8:Nat),
k8<k2 ∧
[slice (some (bk,0)) n n,int i64 a,int i64 m,int i64 b,AV.func (Fn.func (g:FuncId)) [] [],int i64 x3.1,
int i64 ((X none).wrap i64 (((X none).wrap u64 ((X none).wrap i64 (x3.1+x3.2))).fdiv (2:Int)))] =
[slice (some (bk,0)) n n,int i64 a,int i64 m,int i64 b,AV.func (Fn.func (g:FuncId)) [] [],int i64 x5.1,
int i64 x5.2] ∧
x1 x5 H2 k8
else
∃(x6:Int×Int→AH→Nat→Prop),
(∃(x7:Int×Int),
∃(k9:Nat),
[slice (some (bk,0)) n n,int i64 a,int i64 m,int i64 b,AV.func (Fn.func (g:FuncId)) [] [],int i64 x3.1,int i64 a] =
[slice (some (bk,0)) n n,int i64 a,int i64 m,int i64 b,AV.func (Fn.func (g:FuncId)) [] [],int i64 x7.1,int i64 x7.2] ∧
x6 x7 H1 k9) ∧
∀(x8:Int×Int) (H3:AH) (jb:Nat),
x6 x8 H3 jb →
bif decide (x8.2<(X none).wrap i64 (x8.1 - (1:Int))) then
∃(fN iq:Nat),
(some (bk,(0:Nat))=some (fN,iq)∧(0:Int)≤(X none).wrap i64 (x8.2+(1:Int))∧(X none).wrap i64 (x8.2+(1:Int))<(↑n:Int)) ∧
∃(eK iC j6 kO:Int),
(X none).bC H3 fN (iq+((X none).wrap i64 (x8.2+(1:Int))).toNat*4) 4 =
some [int i64 eK,int i64 iC,int i64 j6,int i64 kO] ∧
∃(jM iD:Nat),
(some (bk,(0:Nat))=some (jM,iD)∧(0:Int)≤x8.2∧x8.2<(↑n:Int)) ∧
∃(lD pI qt sX:Int),
(X none).bC H3 jM (iD+x8.2.toNat*4) 4=some [int i64 lD,int i64 pI,int i64 qt,int i64 sX] ∧
∃(jr m6:Nat),
(some (bk,(0:Nat))=some (jr,m6)∧(0:Int)≤x8.2∧x8.2<(↑n:Int)) ∧
[int i64 eK,int i64 iC,int i64 j6,int i64 kO].length=4 ∧
∃(H4:AH),
(X none).wr H3 jr (m6+x8.2.toNat*4) [int i64 eK,int i64 iC,int i64 j6,int i64 kO]=some H4 ∧
∃(jq lK:Nat),
(some (bk,(0:Nat))=some (jq,lK)∧(0:Int)≤(X none).wrap i64 (x8.2+(1:Int))∧(X none).wrap i64 (x8.2+(1:Int))<(↑n:Int)) ∧
[int i64 lD,int i64 pI,int i64 qt,int i64 sX].length=4 ∧
∃(H5:AH),
(X none).wr H4 jq (lK+((X none).wrap i64 (x8.2+(1:Int))).toNat*4)
[int i64 lD,int i64 pI,int i64 qt,int i64 sX] =
some H5 ∧
∃(x9:Int×Int),
∃(sB:Nat),
sB<jb ∧
[slice (some (bk,0)) n n,int i64 a,int i64 m,int i64 b,AV.func (Fn.func (g:FuncId)) [] [],
int i64 x8.1,int i64 ((X none).wrap i64 (x8.2+(1:Int)))] =
[slice (some (bk,0)) n n,int i64 a,int i64 m,int i64 b,AV.func (Fn.func (g:FuncId)) [] [],
int i64 x9.1,int i64 x9.2] ∧
x6 x9 H5 sB
else Q (tuple []) H3
else
bif (X none).wrap i64 (b - m) == (1:Int) then
∃(bp:Int×Int→AH→Nat→Prop),
(∃(eL:Int×Int),
∃(zL:Nat),
[slice (some (bk,0)) n n,int i64 a,int i64 m,int i64 b,AV.func (Fn.func (g:FuncId)) [] [],int i64 a,int i64 m] =
[slice (some (bk,0)) n n,int i64 a,int i64 m,int i64 b,AV.func (Fn.func (g:FuncId)) [] [],int i64 eL.1,int i64 eL.2] ∧
bp eL H zL) ∧
∀(dL:Int×Int) (H6:AH) (qA:Nat),
bp dL H6 qA →
bif decide (dL.1<dL.2) then
(0:Int)≤(1:Int) ∧
∃(pN rR:Nat),
(some (bk,(0:Nat))=some (pN,rR)∧(0:Int)≤m∧m<(↑n:Int)) ∧
∃(vt yL wJ BQ:Int),
(X none).bC H6 pN (rR+m.toNat*4) 4=some [int i64 vt,int i64 yL,int i64 wJ,int i64 BQ] ∧
∃(vL FP:Nat),
(some (bk,0)=some (vL,FP) ∧
(0:Int)≤(X none).wrap i64 (((X none).wrap u64 ((X none).wrap i64 (dL.1+dL.2))).fdiv (2:Int)) ∧
(X none).wrap i64 (((X none).wrap u64 ((X none).wrap i64 (dL.1+dL.2))).fdiv (2:Int))<(↑n:Int)) ∧
∃(D5 CN FE FD:Int),
(X none).bC H6 vL (FP+((X none).wrap i64 (((X none).wrap u64 ((X none).wrap i64 (dL.1+dL.2))).fdiv (2:Int))).toNat*4) 4 =
some [int i64 D5,int i64 CN,int i64 FE,int i64 FD] ∧
(X none).call (g:FuncId)
[agg [int i64 vt,int i64 yL,int i64 wJ,int i64 BQ],
agg [int i64 D5,int i64 CN,int i64 FE,int i64 FD]]
H6 fun (v2:AV) (H7:AH) =>
∃(FC:Int),
v2=int i64 FC ∧
bif !decide (FC<(0:Int)) then
∃(gX:Int×Int),
∃(wR:Nat),
wR<qA ∧
[slice (some (bk,0)) n n,int i64 a,int i64 m,int i64 b,AV.func (Fn.func (g:FuncId)) [] [],
int i64
((X none).wrap i64 ((X none).wrap i64 (((X none).wrap u64 ((X none).wrap i64 (dL.1+dL.2))).fdiv (2:Int))+(1:Int))),
int i64 dL.2] =
[slice (some (bk,0)) n n,int i64 a,int i64 m,int i64 b,AV.func (Fn.func (g:FuncId)) [] [],int i64 gX.1,
int i64 gX.2] ∧
bp gX H7 wR
else
∃(bW:Int×Int),
∃(ny:Nat),
ny<qA ∧
[slice (some (bk,0)) n n,int i64 a,int i64 m,int i64 b,AV.func (Fn.func (g:FuncId)) [] [],int i64 dL.1,
int i64 ((X none).wrap i64 (((X none).wrap u64 ((X none).wrap i64 (dL.1+dL.2))).fdiv (2:Int)))] =
[slice (some (bk,0)) n n,int i64 a,int i64 m,int i64 b,AV.func (Fn.func (g:FuncId)) [] [],int i64 bW.1,
int i64 bW.2] ∧
bp bW H7 ny
else
∃(fF:Int×Int→AH→Nat→Prop),
(∃(vr:Int×Int),
∃(zK:Nat),
[slice (some (bk,0)) n n,int i64 a,int i64 m,int i64 b,AV.func (Fn.func (g:FuncId)) [] [],int i64 dL.1,int i64 m] =
[slice (some (bk,0)) n n,int i64 a,int i64 m,int i64 b,AV.func (Fn.func (g:FuncId)) [] [],int i64 vr.1,int i64 vr.2] ∧
fF vr H6 zK) ∧
∀(dN:Int×Int) (H8:AH) (FO:Nat),
fF dN H8 FO →
bif decide (dN.2 > dN.1) then
∃(FN IM:Nat),
(some (bk,(0:Nat))=some (FN,IM)∧(0:Int)≤(X none).wrap i64 (dN.2 - (1:Int))∧(X none).wrap i64 (dN.2 - (1:Int))<(↑n:Int)) ∧
∃(DZ DY Is Lc:Int),
(X none).bC H8 FN (IM+((X none).wrap i64 (dN.2 - (1:Int))).toNat*4) 4 =
some [int i64 DZ,int i64 DY,int i64 Is,int i64 Lc] ∧
∃(IL IK:Nat),
(some (bk,(0:Nat))=some (IL,IK)∧(0:Int)≤dN.2∧dN.2<(↑n:Int)) ∧
∃(Lb JY Ir La:Int),
(X none).bC H8 IL (IK+dN.2.toNat*4) 4=some [int i64 Lb,int i64 JY,int i64 Ir,int i64 La] ∧
∃(IJ GI:Nat),
(some (bk,(0:Nat))=some (IJ,GI)∧(0:Int)≤dN.2∧dN.2<(↑n:Int)) ∧
[int i64 DZ,int i64 DY,int i64 Is,int i64 Lc].length=4 ∧
∃(H9:AH),
(X none).wr H8 IJ (GI+dN.2.toNat*4) [int i64 DZ,int i64 DY,int i64 Is,int i64 Lc]=some H9 ∧
∃(GH MS:Nat),
(some (bk,(0:Nat))=some (GH,MS)∧(0:Int)≤(X none).wrap i64 (dN.2 - (1:Int))∧(X none).wrap i64 (dN.2 - (1:Int))<(↑n:Int)) ∧
[int i64 Lb,int i64 JY,int i64 Ir,int i64 La].length=4 ∧
∃(jd:AH),
(X none).wr H9 GH (MS+((X none).wrap i64 (dN.2 - (1:Int))).toNat*4)
[int i64 Lb,int i64 JY,int i64 Ir,int i64 La] =
some jd ∧
∃(cr:Int×Int),
∃(MQ:Nat),
MQ<FO ∧
[slice (some (bk,0)) n n,int i64 a,int i64 m,int i64 b,AV.func (Fn.func (g:FuncId)) [] [],
int i64 dN.1,int i64 ((X none).wrap i64 (dN.2 - (1:Int)))] =
[slice (some (bk,0)) n n,int i64 a,int i64 m,int i64 b,AV.func (Fn.func (g:FuncId)) [] [],
int i64 cr.1,int i64 cr.2] ∧
fF cr jd MQ
else Q (tuple []) H8
else
(0:Int)≤(1:Int) ∧
∃(lN:Int×Int×Int×Int→AH→Prop),
(bif decide (m > (X none).wrap i64 (((X none).wrap u64 ((X none).wrap i64 (a+b))).fdiv ((2:Int) ^ min (Int.toNat (1:Int)) u64.bits))) then
∃(lJ:Int×Int×Int×Int),
∃(_k39:Nat),
True ∧
[slice (some (bk,0)) n n,int i64 a,int i64 m,int i64 b,AV.func (Fn.func (g:FuncId)) [] [],
int i64 ((X none).wrap i64 (((X none).wrap u64 ((X none).wrap i64 (a+b))).fdiv (2:Int))),
int i64 ((X none).wrap i64 ((X none).wrap i64 (((X none).wrap u64 ((X none).wrap i64 (a+b))).fdiv (2:Int))+m)),
int i64 ((X none).wrap i64 ((X none).wrap i64 ((X none).wrap i64 (((X none).wrap u64 ((X none).wrap i64 (a+b))).fdiv (2:Int))+m) - b)),
int i64 ((X none).wrap i64 (((X none).wrap u64 ((X none).wrap i64 (a+b))).fdiv (2:Int)))] =
[slice (some (bk,0)) n n,int i64 a,int i64 m,int i64 b,AV.func (Fn.func (g:FuncId)) [] [],int i64 lJ.1,int i64 lJ.2.1,
int i64 lJ.2.2.1,int i64 lJ.2.2.2] ∧
lN lJ H
else
∃(gW:Int×Int×Int×Int),
∃(_k40:Nat),
True ∧
[slice (some (bk,0)) n n,int i64 a,int i64 m,int i64 b,AV.func (Fn.func (g:FuncId)) [] [],
int i64 ((X none).wrap i64 (((X none).wrap u64 ((X none).wrap i64 (a+b))).fdiv (2:Int))),
int i64 ((X none).wrap i64 ((X none).wrap i64 (((X none).wrap u64 ((X none).wrap i64 (a+b))).fdiv (2:Int))+m)),int i64 a,int i64 m] =
[slice (some (bk,0)) n n,int i64 a,int i64 m,int i64 b,AV.func (Fn.func (g:FuncId)) [] [],int i64 gW.1,int i64 gW.2.1,
int i64 gW.2.2.1,int i64 gW.2.2.2] ∧
lN gW H) ∧
∀(gr:Int×Int×Int×Int) (nT:AH),
lN gr nT →
∃(hU:Int×Int×Int×Int×Int→AH→Nat→Prop),
(∃(fq:Int×Int×Int×Int×Int),
∃(MP:Nat),
[slice (some (bk,0)) n n,int i64 a,int i64 m,int i64 b,AV.func (Fn.func (g:FuncId)) [] [],int i64 gr.1,int i64 gr.2.1,
int i64 gr.2.2.1,int i64 gr.2.2.2,int i64 ((X none).wrap i64 (gr.2.1 - (1:Int)))] =
[slice (some (bk,0)) n n,int i64 a,int i64 m,int i64 b,AV.func (Fn.func (g:FuncId)) [] [],int i64 fq.1,int i64 fq.2.1,
int i64 fq.2.2.1,int i64 fq.2.2.2.1,int i64 fq.2.2.2.2] ∧
hU fq nT MP) ∧
∀(cF:Int×Int×Int×Int×Int) (oK:AH) (Lr:Nat),
hU cF oK Lr →
bif decide (cF.2.2.1<cF.2.2.2.1) then
(0:Int)≤(1:Int) ∧
∃(S9 QL:Nat),
(some (bk,0)=some (S9,QL) ∧
(0:Int)≤(X none).wrap i64 (cF.2.2.2.2 - (X none).wrap i64 (((X none).wrap u64 ((X none).wrap i64 (cF.2.2.1+cF.2.2.2.1))).fdiv (2:Int))) ∧
(X none).wrap i64 (cF.2.2.2.2 - (X none).wrap i64 (((X none).wrap u64 ((X none).wrap i64 (cF.2.2.1+cF.2.2.2.1))).fdiv (2:Int)))<(↑n:Int)) ∧
∃(MO JX GG MN:Int),
(X none).bC oK S9
(QL +
((X none).wrap i64
(cF.2.2.2.2 - (X none).wrap i64 (((X none).wrap u64 ((X none).wrap i64 (cF.2.2.1+cF.2.2.2.1))).fdiv (2:Int)))).toNat *
4)
4 =
some [int i64 MO,int i64 JX,int i64 GG,int i64 MN] ∧
∃(QK QJ:Nat),
(some (bk,0)=some (QK,QJ) ∧
(0:Int)≤(X none).wrap i64 (((X none).wrap u64 ((X none).wrap i64 (cF.2.2.1+cF.2.2.2.1))).fdiv (2:Int)) ∧
(X none).wrap i64 (((X none).wrap u64 ((X none).wrap i64 (cF.2.2.1+cF.2.2.2.1))).fdiv (2:Int))<(↑n:Int)) ∧
∃(MM ML MK MJ:Int),
(X none).bC oK QK
(QJ+((X none).wrap i64 (((X none).wrap u64 ((X none).wrap i64 (cF.2.2.1+cF.2.2.2.1))).fdiv (2:Int))).toNat*4) 4 =
some [int i64 MM,int i64 ML,int i64 MK,int i64 MJ] ∧
(X none).call (g:FuncId)
[agg [int i64 MO,int i64 JX,int i64 GG,int i64 MN],
agg [int i64 MM,int i64 ML,int i64 MK,int i64 MJ]]
oK fun (v3:AV) (nw:AH) =>
∃(QB:Int),
v3=int i64 QB ∧
bif !decide (QB<(0:Int)) then
∃(ct:Int×Int×Int×Int×Int),
∃(Oh:Nat),
Oh<Lr ∧
[slice (some (bk,0)) n n,int i64 a,int i64 m,int i64 b,AV.func (Fn.func (g:FuncId)) [] [],
int i64 cF.1,int i64 cF.2.1,
int i64
((X none).wrap i64
((X none).wrap i64 (((X none).wrap u64 ((X none).wrap i64 (cF.2.2.1+cF.2.2.2.1))).fdiv (2:Int))+(1:Int))),
int i64 cF.2.2.2.1,int i64 cF.2.2.2.2] =
[slice (some (bk,0)) n n,int i64 a,int i64 m,int i64 b,AV.func (Fn.func (g:FuncId)) [] [],
int i64 ct.1,int i64 ct.2.1,int i64 ct.2.2.1,int i64 ct.2.2.2.1,
int i64 ct.2.2.2.2] ∧
hU ct nw Oh
else
∃(gF:Int×Int×Int×Int×Int),
∃(Py:Nat),
Py<Lr ∧
[slice (some (bk,0)) n n,int i64 a,int i64 m,int i64 b,AV.func (Fn.func (g:FuncId)) [] [],
int i64 cF.1,int i64 cF.2.1,int i64 cF.2.2.1,
int i64 ((X none).wrap i64 (((X none).wrap u64 ((X none).wrap i64 (cF.2.2.1+cF.2.2.2.1))).fdiv (2:Int))),
int i64 cF.2.2.2.2] =
[slice (some (bk,0)) n n,int i64 a,int i64 m,int i64 b,AV.func (Fn.func (g:FuncId)) [] [],
int i64 gF.1,int i64 gF.2.1,int i64 gF.2.2.1,int i64 gF.2.2.2.1,
int i64 gF.2.2.2.2] ∧
hU gF nw Py
else
∃(jU:Int×Int×Int→AH→Prop),
(bif decide (cF.2.2.1<m) && decide (m<(X none).wrap i64 (cF.2.1 - cF.2.2.1)) then
(X none).call 169
[slice (some (bk,0)) n n,int i64 cF.2.2.1,int i64 m,int i64 ((X none).wrap i64 (cF.2.1 - cF.2.2.1)),
AV.func (Fn.func (g:FuncId)) [] []]
oK fun (_v4:AV) (xH:AH) =>
∃(zP:Int×Int×Int),
∃(_k49:Nat),
True ∧
[slice (some (bk,0)) n n,int i64 a,int i64 m,int i64 b,AV.func (Fn.func (g:FuncId)) [] [],int i64 cF.1,
int i64 cF.2.2.1,int i64 ((X none).wrap i64 (cF.2.1 - cF.2.2.1))] =
[slice (some (bk,0)) n n,int i64 a,int i64 m,int i64 b,AV.func (Fn.func (g:FuncId)) [] [],int i64 zP.1,
int i64 zP.2.1,int i64 zP.2.2] ∧
jU zP xH
else
∃(SW:Int×Int×Int),
∃(_k50:Nat),
True ∧
[slice (some (bk,0)) n n,int i64 a,int i64 m,int i64 b,AV.func (Fn.func (g:FuncId)) [] [],int i64 cF.1,
int i64 cF.2.2.1,int i64 ((X none).wrap i64 (cF.2.1 - cF.2.2.1))] =
[slice (some (bk,0)) n n,int i64 a,int i64 m,int i64 b,AV.func (Fn.func (g:FuncId)) [] [],int i64 SW.1,
int i64 SW.2.1,int i64 SW.2.2] ∧
jU SW oK) ∧
∀(GF:Int×Int×Int) (nv:AH),
jU GF nv →
∃(TY:Int×Int×Int→AH→Prop),
(bif decide (a<GF.2.1) && decide (GF.2.1<GF.1) then
(X none).call 161 [slice (some (bk,0)) n n,int i64 a,int i64 GF.2.1,int i64 GF.1,AV.func (Fn.func (g:FuncId)) [] []] nv
fun (_v5:AV) (xG:AH) =>
∃(SV:Int×Int×Int),
∃(_k51:Nat),
True ∧
[slice (some (bk,0)) n n,int i64 a,int i64 m,int i64 b,AV.func (Fn.func (g:FuncId)) [] [],int i64 GF.1,
int i64 GF.2.1,int i64 GF.2.2] =
[slice (some (bk,0)) n n,int i64 a,int i64 m,int i64 b,AV.func (Fn.func (g:FuncId)) [] [],int i64 SV.1,
int i64 SV.2.1,int i64 SV.2.2] ∧
TY SV xG
else
∃(SU:Int×Int×Int),
∃(_k52:Nat),
True ∧
[slice (some (bk,0)) n n,int i64 a,int i64 m,int i64 b,AV.func (Fn.func (g:FuncId)) [] [],int i64 GF.1,
int i64 GF.2.1,int i64 GF.2.2] =
[slice (some (bk,0)) n n,int i64 a,int i64 m,int i64 b,AV.func (Fn.func (g:FuncId)) [] [],int i64 SU.1,
int i64 SU.2.1,int i64 SU.2.2] ∧
TY SU nv) ∧
∀(Pp:Int×Int×Int) (G3:AH),
TY Pp G3 →
bif decide (Pp.1<Pp.2.2) && decide (Pp.2.2<b) then
(X none).call 161 [slice (some (bk,0)) n n,int i64 Pp.1,int i64 Pp.2.2,int i64 b,AV.func (Fn.func (g:FuncId)) [] []] G3
fun (_v6:AV) (vn:AH)=>Q (tuple []) vn
else Q (tuple []) G3):=by rcases hg with rfl | rfl <;> kernel_rfl
theorem EM (X:Option Nat→aO) (It:FuncId→List AV→List AV→(AH→Prop)→List (List AV)→Prop) (bk n:Nat) (g:Nat) (hg:g=147∨g=128) (H:AH) (Q:AV→AH→Prop):(nx X It Tryz.prog [⟨2,Int×Int×Int,[0,1,2,6,7,8],fun x=>[.slice (some (bk,0)) n n,.int .i64 n,.func (.func g) [] [],.int .i64 x.1,.int .i64 x.2.1,.int .i64 x.2.2],fun _ _ _=>True⟩,⟨7,Int,[0,1,2,6],fun x=>[.slice (some (bk,0)) n n,.int .i64 n,.func (.func g) [] [],.int .i64 x],fun _ _ _=>True⟩,⟨9,Int×Int×Int,[0,1,2,6,7,8],fun x=>[.slice (some (bk,0)) n n,.int .i64 n,.func (.func g) [] [],.int .i64 x.1,.int .i64 x.2.1,.int .i64 x.2.2],fun _ _ _=>True⟩,⟨200016,Int,[0,1,2,6],fun x=>[.slice (some (bk,0)) n n,.int .i64 n,.func (.func g) [] [],.int .i64 x],fun _ _ _=>True⟩] [] 144 [.slice (some (bk,0)) n n,.int .i64 n,.func (.func g) [] []] H Q) =
(∃(x1:Int×Int×Int→AH→Nat→Prop),
(∃(x2:Int×Int×Int),
∃(k1:Nat),
[slice (some (bk,(0:Nat))) n n,int i64 (↑n:Int),AV.func (Fn.func (g:FuncId)) [] [],int i64 20,int i64 0,int i64 20] =
[slice (some (bk,(0:Nat))) n n,int i64 (↑n:Int),AV.func (Fn.func (g:FuncId)) [] [],int i64 x2.1,int i64 x2.2.1,int i64 x2.2.2] ∧
x1 x2 H k1) ∧
∀(x3:Int×Int×Int) (H1:AH) (k2:Nat),
x1 x3 H1 k2 →
bif decide (x3.2.2≤(↑n:Int)) then
(X none).call 160 [slice (some (bk,0)) n n,int i64 x3.2.1,int i64 x3.2.2,AV.func (Fn.func (g:FuncId)) [] []] H1 fun (_v1:AV) (H2:AH) =>
∃(x4:Int×Int×Int),
∃(k3:Nat),
k3<k2 ∧
[slice (some (bk,(0:Nat))) n n,int i64 (↑n:Int),AV.func (Fn.func (g:FuncId)) [] [],int i64 x3.1,int i64 x3.2.2,
int i64 ((X none).wrap i64 (x3.2.2+x3.1))] =
[slice (some (bk,(0:Nat))) n n,int i64 (↑n:Int),AV.func (Fn.func (g:FuncId)) [] [],int i64 x4.1,int i64 x4.2.1,int i64 x4.2.2] ∧
x1 x4 H2 k3
else
(X none).call (160:Nat) [slice (some (bk,(0:Nat))) n n,int i64 x3.2.1,int i64 (↑n:Int),AV.func (Fn.func (g:FuncId)) [] []] H1 fun (_v2:AV) (H3:AH) =>
∃(x5:Int→AH→Nat→Prop),
(∃(n1:Int),
∃(k4:Nat),
[slice (some (bk,(0:Nat))) n n,int i64 (↑n:Int),AV.func (Fn.func (g:FuncId)) [] [],int i64 x3.1] =
[slice (some (bk,(0:Nat))) n n,int i64 (↑n:Int),AV.func (Fn.func (g:FuncId)) [] [],int i64 n1] ∧
x5 n1 H3 k4) ∧
∀(n2:Int) (H4:AH) (k5:Nat),
x5 n2 H4 k5 →
bif decide (n2<(↑n:Int)) then
∃(x6:Int×Int×Int→AH→Nat→Prop),
(∃(x7:Int×Int×Int),
∃(k6:Nat),
[slice (some (bk,(0:Nat))) n n,int i64 (↑n:Int),AV.func (Fn.func (g:FuncId)) [] [],int i64 n2,int i64 0,
int i64 ((X none).wrap i64 ((2:Int)*n2))] =
[slice (some (bk,(0:Nat))) n n,int i64 (↑n:Int),AV.func (Fn.func (g:FuncId)) [] [],int i64 x7.1,int i64 x7.2.1,int i64 x7.2.2] ∧
x6 x7 H4 k6) ∧
∀(x8:Int×Int×Int) (H5:AH) (k7:Nat),
x6 x8 H5 k7 →
bif decide (x8.2.2≤(↑n:Int)) then
(X none).call 161
[slice (some (bk,0)) n n,int i64 x8.2.1,int i64 ((X none).wrap i64 (x8.2.1+x8.1)),int i64 x8.2.2,
AV.func (Fn.func (g:FuncId)) [] []]
H5 fun (_v3:AV) (H6:AH) =>
∃(x9:Int×Int×Int),
∃(k8:Nat),
k8<k7 ∧
[slice (some (bk,(0:Nat))) n n,int i64 (↑n:Int),AV.func (Fn.func (g:FuncId)) [] [],int i64 x8.1,int i64 x8.2.2,
int i64 ((X none).wrap i64 (x8.2.2+(X none).wrap i64 ((2:Int)*x8.1)))] =
[slice (some (bk,(0:Nat))) n n,int i64 (↑n:Int),AV.func (Fn.func (g:FuncId)) [] [],int i64 x9.1,int i64 x9.2.1,
int i64 x9.2.2] ∧
x6 x9 H6 k8
else
∃(bp:Int→AH→Prop),
(bif decide ((X none).wrap i64 (x8.2.1+x8.1)<(↑n:Int)) then
(X none).call 161
[slice (some (bk,(0:Nat))) n n,int i64 x8.2.1,int i64 ((X none).wrap i64 (x8.2.1+x8.1)),int i64 (↑n:Int),
AV.func (Fn.func (g:FuncId)) [] []]
H5 fun (_v4:AV) (H7:AH) =>
∃(n3:Int),
∃(_k9:Nat),
True ∧
[slice (some (bk,(0:Nat))) n n,int i64 (↑n:Int),AV.func (Fn.func (g:FuncId)) [] [],int i64 x8.1] =
[slice (some (bk,(0:Nat))) n n,int i64 (↑n:Int),AV.func (Fn.func (g:FuncId)) [] [],int i64 n3] ∧
bp n3 H7
else
∃(n4:Int),
∃(_k10:Nat),
True ∧
[slice (some (bk,(0:Nat))) n n,int i64 (↑n:Int),AV.func (Fn.func (g:FuncId)) [] [],int i64 x8.1] =
[slice (some (bk,(0:Nat))) n n,int i64 (↑n:Int),AV.func (Fn.func (g:FuncId)) [] [],int i64 n4] ∧
bp n4 H5) ∧
∀(n5:Int) (H8:AH),
bp n5 H8 →
∃(n6:Int),
∃(fN:Nat),
fN<k5 ∧
[slice (some (bk,(0:Nat))) n n,int i64 (↑n:Int),AV.func (Fn.func (g:FuncId)) [] [],int i64 ((X none).wrap i64 (n5*(2:Int)))] =
[slice (some (bk,(0:Nat))) n n,int i64 (↑n:Int),AV.func (Fn.func (g:FuncId)) [] [],int i64 n6] ∧
x5 n6 H8 fN
else Q (tuple []) H4):=by rcases hg with rfl | rfl <;> kernel_rfl
theorem Ho (X:Option Nat→aO) (It:FuncId→List AV→List AV→(AH→Prop)→List (List AV)→Prop) (bk n:Nat) (g:Nat) (hg:g=147∨g=128) (H:AH) (Q:AV→AH→Prop):(nx X It Tryz.prog [] [] 127 [.slice (some (bk,0)) n n,.func (.func g) [] []] H Q) =
((X none).call (144:Nat) [slice (some (bk,(0:Nat))) n n,int i64 (↑n:Int),AV.func (Fn.func (g:FuncId)) [] []] H fun (_v1:AV) (H1:AH)=>Q (tuple []) H1):=by rcases hg with rfl | rfl <;> kernel_rfl
theorem Mc (X:Option Nat→aO) (It:FuncId→List AV→List AV→(AH→Prop)→List (List AV)→Prop) (x1 x2 x3 x4 y1 y2 y3 y4:Int) (H:AH) (Q:AV→AH→Prop):(nx X It Tryz.prog [] [] 147 [.agg [.int .i64 x1,.int .i64 x2,.int .i64 x3,.int .i64 x4],.agg [.int .i64 y1,.int .i64 y2,.int .i64 y3,.int .i64 y4]] H Q) =
(true=true ∧
true=true ∧
∃(n1:Int),
(X none).aM
((X none).al ((X none).al H (cells [int i64 x1,int i64 x2,int i64 x3,int i64 x4] 54 { whole:=true }))
(cells [int i64 y1,int i64 y2,int i64 y3,int i64 y4] 54 { whole:=true }))
((X none).n H) 0 =
some (int i64 n1) ∧
∃(n2:Int),
(X none).aM
((X none).al ((X none).al H (cells [int i64 x1,int i64 x2,int i64 x3,int i64 x4] 54 { whole:=true }))
(cells [int i64 y1,int i64 y2,int i64 y3,int i64 y4] 54 { whole:=true }))
((X none).n ((X none).al H (cells [int i64 x1,int i64 x2,int i64 x3,int i64 x4] 54 { whole:=true }))) 0 =
some (int i64 n2) ∧
∃(n3:Int),
(X none).aM
((X none).al ((X none).al H (cells [int i64 x1,int i64 x2,int i64 x3,int i64 x4] 54 { whole:=true }))
(cells [int i64 y1,int i64 y2,int i64 y3,int i64 y4] 54 { whole:=true }))
((X none).n ((X none).al H (cells [int i64 x1,int i64 x2,int i64 x3,int i64 x4] 54 { whole:=true }))) 1 =
some (int i64 n3) ∧
∃(n4:Int),
(X none).aM
((X none).al ((X none).al H (cells [int i64 x1,int i64 x2,int i64 x3,int i64 x4] 54 { whole:=true }))
(cells [int i64 y1,int i64 y2,int i64 y3,int i64 y4] 54 { whole:=true }))
((X none).n H) 1 =
some (int i64 n4) ∧
∃(n5:Int),
(X none).aM
((X none).al ((X none).al H (cells [int i64 x1,int i64 x2,int i64 x3,int i64 x4] 54 { whole:=true }))
(cells [int i64 y1,int i64 y2,int i64 y3,int i64 y4] 54 { whole:=true }))
((X none).n H) 2 =
some (int i64 n5) ∧
∃(n6:Int),
(X none).aM
((X none).al ((X none).al H (cells [int i64 x1,int i64 x2,int i64 x3,int i64 x4] 54 { whole:=true }))
(cells [int i64 y1,int i64 y2,int i64 y3,int i64 y4] 54 { whole:=true }))
((X none).n ((X none).al H (cells [int i64 x1,int i64 x2,int i64 x3,int i64 x4] 54 { whole:=true }))) 2 =
some (int i64 n6) ∧
(X none).call 130 [int i64 n1,int i64 n2]
((X none).al ((X none).al H (cells [int i64 x1,int i64 x2,int i64 x3,int i64 x4] 54 { whole:=true }))
(cells [int i64 y1,int i64 y2,int i64 y3,int i64 y4] 54 { whole:=true }))
fun (v1:AV) (H1:AH) =>
∃(n7:Int),
v1=int i64 n7 ∧
(∃(n8:Int),
(X none).aM H1 ((X none).n ((X none).al H (cells [int i64 x1,int i64 x2,int i64 x3,int i64 x4] 54 { whole:=true }))) 2 =
some (int i64 n8) ∧
int i64 n8=int i64 n6) ∧
(∃(n9:Int),(X none).aM H1 ((X none).n H) 2=some (int i64 n9)∧int i64 n9=int i64 n5) ∧
(∃(eK:Int),(X none).aM H1 ((X none).n H) 1=some (int i64 eK)∧int i64 eK=int i64 n4) ∧
(∃(iC:Int),
(X none).aM H1 ((X none).n ((X none).al H (cells [int i64 x1,int i64 x2,int i64 x3,int i64 x4] 54 { whole:=true }))) 1 =
some (int i64 iC) ∧
int i64 iC=int i64 n3) ∧
(X none).call 130 [int i64 n3,int i64 n4] H1 fun (v2:AV) (H2:AH) =>
∃(j6:Int),
v2=int i64 j6 ∧
(∃(kO:Int),
(X none).aM H2 ((X none).n ((X none).al H (cells [int i64 x1,int i64 x2,int i64 x3,int i64 x4] 54 { whole:=true })))
2 =
some (int i64 kO) ∧
int i64 kO=int i64 n6) ∧
(∃(lD:Int),(X none).aM H2 ((X none).n H) 2=some (int i64 lD)∧int i64 lD=int i64 n5) ∧
(X none).call 130 [int i64 n5,int i64 n6] H2 fun (v3:AV) (H3:AH) =>
∃(pI:Int),
v3=int i64 pI ∧
(3≤16777216∧1=1∧0<1∧true=true∧true=true) ∧
(X none).call 129 [slice (some ((X none).n H3,0)) 3 3]
((X none).al H3 (cells [int i64 n7,int i64 j6,int i64 pI] 3 { whole:=true })) fun (v4:AV) (H4:AH) =>
∃(qt:Int),v4=int i64 qt∧Q (int i64 qt) H4):=by kernel_rfl
theorem Jy (X:Option Nat→aO) (It:FuncId→List AV→List AV→(AH→Prop)→List (List AV)→Prop) (bk:Nat) (H:AH) (Q:AV→AH→Prop):(nx X It Tryz.prog [⟨3,Int,[3,6,7,8],fun x=>[.int .i64 0,.slice (some (bk,0)) 3 3,.int .i64 3,.int .i64 x],fun _ _ _=>True⟩] [] 129 [.slice (some (bk,0)) 3 3] H Q) =
(∃(x1:Int→AH→Nat→Prop),
(∃(n1:Int),
∃(k1:Nat),
[int i64 0,slice (some (bk,0)) 3 3,int i64 3,int i64 0] =
[int i64 0,slice (some (bk,0)) 3 3,int i64 3,int i64 n1] ∧
x1 n1 H k1) ∧
∀(n2:Int) (H1:AH) (k2:Nat),
x1 n2 H1 k2 →
bif decide (n2<(3:Int)) then
∃(k3 k4:Nat),
(some (bk,0)=some (k3,k4)∧(0:Int)≤n2∧n2<(3:Int)) ∧
∃(n3:Int),
(X none).aM H1 k3 (k4+n2.toNat*1)=some (int i64 n3) ∧
bif n3 != (0:Int) then Q (int i64 n3) H1
else
∃(n4:Int),
∃(k5:Nat),
k5<k2 ∧
[int i64 0,slice (some (bk,0)) 3 3,int i64 3,int i64 ((X none).wrap i64 (n2+(1:Int)))] =
[int i64 0,slice (some (bk,0)) 3 3,int i64 3,int i64 n4] ∧
x1 n4 H1 k5
else Q (int i64 0) H1):=by kernel_rfl
theorem Dt (X:Option Nat→aO) (It:FuncId→List AV→List AV→(AH→Prop)→List (List AV)→Prop) (a b:Int) (H:AH) (Q:AV→AH→Prop):(nx X It Tryz.prog [] [] 130 [.int .i64 a,.int .i64 b] H Q) =
((X none).call 145 [int i64 a] H fun (v1:AV) (H1:AH) =>
∃(b1:Bool),
v1=bool b1 ∧
(X none).call 145 [int i64 b] H1 fun (v2:AV) (H2:AH) =>
∃(b2:Bool),
v2=bool b2 ∧
bif b1 then bif b2 then Q (int i64 0) H2 else Q (int i64 (-1:Int)) H2
else bif b2 then Q (int i64 1) H2 else bif decide (a<b) then Q (int i64 (-1:Int)) H2 else bif decide (a > b) then Q (int i64 1) H2 else Q (int i64 0) H2):=by kernel_rfl
theorem IN (X:Option Nat→aO) (It:FuncId→List AV→List AV→(AH→Prop)→List (List AV)→Prop) (a:Int) (H:AH) (Q:AV→AH→Prop):(nx X It Tryz.prog [] [] 145 [.int .i64 a] H Q) =
(Q (bool (a != a)) H):=by kernel_rfl
end Go.Proofs.YtlkdhhkncoekgaaGreatDoor
