/- What functions ask (printed). -/
import Derived.Test.YtlkdhhkncoekgaaDoorAmTri
import Derived.Test.YtlkdhhkncoekgaaDoorTabs
namespace Go.Proofs.YtlkdhhkncoekgaaDoor
open Go.Am Go
open _root_.Go.Am.AV (int slice ptr str bool agg tuple)
open _root_.Go.IntKind (i64 i32 u8 u64)
open _root_.Go.Am.aS (cells)
theorem GI (X:Option Nat→aN) (It:FuncId→List AV→List AV→(AH→Prop)→List (List AV)→Prop) (bk n:Nat) (a b m:Int) (g:Nat) (hg:g=111∨g=100) (H:AH) (Q:AV→AH→Prop):(oh X It Tryd.prog [⟨1,Int,[0,1,2,3,10],fun x=>[.slice (some (bk,0)) n n,.int .i64 a,.int .i64 b,.int .i64 m,.int .i64 x],fun _ _ _=>True⟩] [] 119 [.slice (some (bk,0)) n n,.int .i64 a,.int .i64 b,.int .i64 m,.func (.func g) [] []] H Q) =
(∃(x1:Int→AH→Nat→Prop),
(∃(n1:Int),
∃(k1:Nat),
[slice (some (bk,0)) n n,int i64 a,int i64 b,int i64 m,int i64 0] =
[slice (some (bk,0)) n n,int i64 a,int i64 b,int i64 m,int i64 n1] ∧
x1 n1 H k1) ∧
∀(n2:Int) (H1:AH) (k2:Nat),
x1 n2 H1 k2 →
bif decide (n2<m) then
∃(k3 k4:Nat),
(some (bk,(0:Nat))=some (k3,k4)∧(0:Int)≤(X none).wrap i64 (b+n2)∧(X none).wrap i64 (b+n2)<(↑n:Int)) ∧
∃(n3 n4 n5 n6:Int),
(X none).bP H1 k3 (k4+((X none).wrap i64 (b+n2)).toNat*4) 4=some [int i64 n3,int i64 n4,int i64 n5,int i64 n6] ∧
∃(k5 k6:Nat),
(some (bk,(0:Nat))=some (k5,k6)∧(0:Int)≤(X none).wrap i64 (a+n2)∧(X none).wrap i64 (a+n2)<(↑n:Int)) ∧
∃(n7 n8 n9 fO:Int),
(X none).bP H1 k5 (k6+((X none).wrap i64 (a+n2)).toNat*4) 4=some [int i64 n7,int i64 n8,int i64 n9,int i64 fO] ∧
∃(k7 k8:Nat),
(some (bk,(0:Nat))=some (k7,k8)∧(0:Int)≤(X none).wrap i64 (a+n2)∧(X none).wrap i64 (a+n2)<(↑n:Int)) ∧
[int i64 n3,int i64 n4,int i64 n5,int i64 n6].length=4 ∧
∃(H2:AH),
(X none).wr H1 k7 (k8+((X none).wrap i64 (a+n2)).toNat*4) [int i64 n3,int i64 n4,int i64 n5,int i64 n6]=some H2 ∧
∃(k9 nO:Nat),
(some (bk,(0:Nat))=some (k9,nO)∧(0:Int)≤(X none).wrap i64 (b+n2)∧(X none).wrap i64 (b+n2)<(↑n:Int)) ∧
[int i64 n7,int i64 n8,int i64 n9,int i64 fO].length=4 ∧
∃(H3:AH),
(X none).wr H2 k9 (nO+((X none).wrap i64 (b+n2)).toNat*4) [int i64 n7,int i64 n8,int i64 n9,int i64 fO] =
some H3 ∧
∃(iL:Int),
∃(gQ:Nat),
gQ<k2 ∧
[slice (some (bk,0)) n n,int i64 a,int i64 b,int i64 m,
int i64 ((X none).wrap i64 (n2+(1:Int)))] =
[slice (some (bk,0)) n n,int i64 a,int i64 b,int i64 m,int i64 iL] ∧
x1 iL H3 gQ
else Q (tuple []) H1):=by rcases hg with rfl | rfl <;> kernel_rfl
theorem EE (X:Option Nat→aN) (It:FuncId→List AV→List AV→(AH→Prop)→List (List AV)→Prop) (bk n:Nat) (a m b:Int) (g:Nat) (hg:g=111∨g=100) (H:AH) (Q:AV→AH→Prop):(oh X It Tryd.prog [⟨2,Int×Int,[0,1,2,3,4,10,11],fun x=>[.slice (some (bk,0)) n n,.int .i64 a,.int .i64 m,.int .i64 b,.func (.func g) [] [],.int .i64 x.1,.int .i64 x.2],fun _ _ _=>True⟩] [] 118 [.slice (some (bk,0)) n n,.int .i64 a,.int .i64 m,.int .i64 b,.func (.func g) [] []] H Q) =
(∃(x1:Int×Int→AH→Nat→Prop),
(∃(x2:Int×Int),
∃(k1:Nat),
[slice (some (bk,0)) n n,int i64 a,int i64 m,int i64 b,AV.func (Fn.func (g:FuncId)) [] [],int i64 ((X none).wrap i64 (m - a)),
int i64 ((X none).wrap i64 (b - m))] =
[slice (some (bk,0)) n n,int i64 a,int i64 m,int i64 b,AV.func (Fn.func (g:FuncId)) [] [],int i64 x2.1,int i64 x2.2] ∧
x1 x2 H k1) ∧
∀(x3:Int×Int) (H1:AH) (k2:Nat),
x1 x3 H1 k2 →
bif x3.1 != x3.2 then
bif decide (x3.1 > x3.2) then
(X none).call 119 [slice (some (bk,0)) n n,int i64 ((X none).wrap i64 (m - x3.1)),int i64 m,int i64 x3.2,AV.func (Fn.func (g:FuncId)) [] []] H1
fun (_v1:AV) (H2:AH) =>
∃(x4:Int×Int),
∃(k3:Nat),
k3<k2 ∧
[slice (some (bk,0)) n n,int i64 a,int i64 m,int i64 b,AV.func (Fn.func (g:FuncId)) [] [],int i64 ((X none).wrap i64 (x3.1 - x3.2)),
int i64 x3.2] =
[slice (some (bk,0)) n n,int i64 a,int i64 m,int i64 b,AV.func (Fn.func (g:FuncId)) [] [],int i64 x4.1,int i64 x4.2] ∧
x1 x4 H2 k3
else
(X none).call 119
[slice (some (bk,0)) n n,int i64 ((X none).wrap i64 (m - x3.1)),int i64 ((X none).wrap i64 ((X none).wrap i64 (m+x3.2) - x3.1)),int i64 x3.1,
AV.func (Fn.func (g:FuncId)) [] []]
H1 fun (_v2:AV) (H3:AH) =>
∃(x5:Int×Int),
∃(k4:Nat),
k4<k2 ∧
[slice (some (bk,0)) n n,int i64 a,int i64 m,int i64 b,AV.func (Fn.func (g:FuncId)) [] [],int i64 x3.1,
int i64 ((X none).wrap i64 (x3.2 - x3.1))] =
[slice (some (bk,0)) n n,int i64 a,int i64 m,int i64 b,AV.func (Fn.func (g:FuncId)) [] [],int i64 x5.1,int i64 x5.2] ∧
x1 x5 H3 k4
else
(X none).call 119 [slice (some (bk,0)) n n,int i64 ((X none).wrap i64 (m - x3.1)),int i64 m,int i64 x3.1,AV.func (Fn.func (g:FuncId)) [] []] H1
fun (_v3:AV) (H4:AH)=>Q (tuple []) H4):=by rcases hg with rfl | rfl <;> kernel_rfl
theorem Fg (X:Option Nat→aN) (It:FuncId→List AV→List AV→(AH→Prop)→List (List AV)→Prop) (bk n:Nat) (a b:Int) (g:Nat) (hg:g=111∨g=100) (H:AH) (Q:AV→AH→Prop):(oh X It Tryd.prog [⟨1,Int,[0,1,2,3,8],fun x=>[.slice (some (bk,0)) n n,.int .i64 a,.int .i64 b,.func (.func g) [] [],.int .i64 x],fun _ _ _=>True⟩,⟨4,Int×Int,[0,1,2,3,8,9],fun x=>[.slice (some (bk,0)) n n,.int .i64 a,.int .i64 b,.func (.func g) [] [],.int .i64 x.1,.int .i64 x.2],fun _ _ _=>True⟩] [] 116 [.slice (some (bk,0)) n n,.int .i64 a,.int .i64 b,.func (.func g) [] []] H Q) =
(∃(x1:Int→AH→Nat→Prop),
(∃(n1:Int),
∃(k1:Nat),
[slice (some (bk,0)) n n,int i64 a,int i64 b,AV.func (Fn.func (g:FuncId)) [] [],int i64 ((X none).wrap i64 (a+(1:Int)))] =
[slice (some (bk,0)) n n,int i64 a,int i64 b,AV.func (Fn.func (g:FuncId)) [] [],int i64 n1] ∧
x1 n1 H k1) ∧
∀(n2:Int) (H1:AH) (k2:Nat),
x1 n2 H1 k2 →
bif decide (n2<b) then
∃(x2:Int×Int→AH→Nat→Prop),
(∃(x3:Int×Int),
∃(k3:Nat),
[slice (some (bk,0)) n n,int i64 a,int i64 b,AV.func (Fn.func (g:FuncId)) [] [],int i64 n2,int i64 n2] =
[slice (some (bk,0)) n n,int i64 a,int i64 b,AV.func (Fn.func (g:FuncId)) [] [],int i64 x3.1,int i64 x3.2] ∧
x2 x3 H1 k3) ∧
∀(x4:Int×Int) (H2:AH) (k4:Nat),
x2 x4 H2 k4 →
bif decide (x4.2 > a) == true then
∃(k5 k6:Nat),
(some (bk,(0:Nat))=some (k5,k6)∧(0:Int)≤x4.2∧x4.2<(↑n:Int)) ∧
∃(n3 n4 n5 n6:Int),
(X none).bP H2 k5 (k6+x4.2.toNat*4) 4=some [int i64 n3,int i64 n4,int i64 n5,int i64 n6] ∧
∃(k7 k8:Nat),
(some (bk,(0:Nat))=some (k7,k8)∧(0:Int)≤(X none).wrap i64 (x4.2 - (1:Int))∧(X none).wrap i64 (x4.2 - (1:Int))<(↑n:Int)) ∧
∃(n7 n8 n9 fO:Int),
(X none).bP H2 k7 (k8+((X none).wrap i64 (x4.2 - (1:Int))).toNat*4) 4 =
some [int i64 n7,int i64 n8,int i64 n9,int i64 fO] ∧
(X none).call (g:FuncId)
[agg [int i64 n3,int i64 n4,int i64 n5,int i64 n6],
agg [int i64 n7,int i64 n8,int i64 n9,int i64 fO]]
H2 fun (v1:AV) (H3:AH) =>
∃(iL:Int),
v1=int i64 iL ∧
bif decide (iL<(0:Int)) then
∃(k9 nO:Nat),
(some (bk,(0:Nat))=some (k9,nO)∧(0:Int)≤(X none).wrap i64 (x4.2 - (1:Int))∧(X none).wrap i64 (x4.2 - (1:Int))<(↑n:Int)) ∧
∃(kI jQ kX mS:Int),
(X none).bP H3 k9 (nO+((X none).wrap i64 (x4.2 - (1:Int))).toNat*4) 4 =
some [int i64 kI,int i64 jQ,int i64 kX,int i64 mS] ∧
∃(gQ mF:Nat),
(some (bk,(0:Nat))=some (gQ,mF)∧(0:Int)≤x4.2∧x4.2<(↑n:Int)) ∧
∃(pW r8 uL xQ:Int),
(X none).bP H3 gQ (mF+x4.2.toNat*4) 4 =
some [int i64 pW,int i64 r8,int i64 uL,int i64 xQ] ∧
∃(nN kQ:Nat),
(some (bk,(0:Nat))=some (nN,kQ)∧(0:Int)≤x4.2∧x4.2<(↑n:Int)) ∧
[int i64 kI,int i64 jQ,int i64 kX,int i64 mS].length=4 ∧
∃(H4:AH),
(X none).wr H3 nN (kQ+x4.2.toNat*4)
[int i64 kI,int i64 jQ,int i64 kX,int i64 mS] =
some H4 ∧
∃(nh rJ:Nat),
(some (bk,0)=some (nh,rJ) ∧
(0:Int)≤(X none).wrap i64 (x4.2 - (1:Int))∧(X none).wrap i64 (x4.2 - (1:Int))<(↑n:Int)) ∧
[int i64 pW,int i64 r8,int i64 uL,int i64 xQ].length=4 ∧
∃(H5:AH),
(X none).wr H4 nh (rJ+((X none).wrap i64 (x4.2 - (1:Int))).toNat*4)
[int i64 pW,int i64 r8,int i64 uL,int i64 xQ] =
some H5 ∧
∃(x5:Int×Int),
∃(kP:Nat),
kP<k4 ∧
[slice (some (bk,0)) n n,int i64 a,int i64 b,
AV.func (Fn.func (g:FuncId)) [] [],int i64 x4.1,
int i64 ((X none).wrap i64 (x4.2 - (1:Int)))] =
[slice (some (bk,0)) n n,int i64 a,int i64 b,
AV.func (Fn.func (g:FuncId)) [] [],int i64 x5.1,int i64 x5.2] ∧
x2 x5 H5 kP
else
∃(vL:Int),
∃(oV:Nat),
oV<k2 ∧
[slice (some (bk,0)) n n,int i64 a,int i64 b,AV.func (Fn.func (g:FuncId)) [] [],
int i64 ((X none).wrap i64 (x4.1+(1:Int)))] =
[slice (some (bk,0)) n n,int i64 a,int i64 b,AV.func (Fn.func (g:FuncId)) [] [],int i64 vL] ∧
x1 vL H3 oV
else
∃(Bc:Int),
∃(uN:Nat),
uN<k2 ∧
[slice (some (bk,0)) n n,int i64 a,int i64 b,AV.func (Fn.func (g:FuncId)) [] [],int i64 ((X none).wrap i64 (x4.1+(1:Int)))] =
[slice (some (bk,0)) n n,int i64 a,int i64 b,AV.func (Fn.func (g:FuncId)) [] [],int i64 Bc] ∧
x1 Bc H2 uN
else Q (tuple []) H1):=by rcases hg with rfl | rfl <;> kernel_rfl
theorem y6 (X:Option Nat→aN) (It:FuncId→List AV→List AV→(AH→Prop)→List (List AV)→Prop) (bk n:Nat) (a m b:Int) (g:Nat) (hg:g=111∨g=100) (H:AH) (Q:AV→AH→Prop):(oh X It Tryd.prog [⟨3,Int×Int,[0,1,2,3,4,10,11],fun x=>[.slice (some (bk,0)) n n,.int .i64 a,.int .i64 m,.int .i64 b,.func (.func g) [] [],.int .i64 x.1,.int .i64 x.2],fun _ _ _=>True⟩,⟨9,Int×Int,[0,1,2,3,4,10,13],fun x=>[.slice (some (bk,0)) n n,.int .i64 a,.int .i64 m,.int .i64 b,.func (.func g) [] [],.int .i64 x.1,.int .i64 x.2],fun _ _ _=>True⟩,⟨15,Int×Int,[0,1,2,3,4,14,15],fun x=>[.slice (some (bk,0)) n n,.int .i64 a,.int .i64 m,.int .i64 b,.func (.func g) [] [],.int .i64 x.1,.int .i64 x.2],fun _ _ _=>True⟩,⟨21,Int×Int,[0,1,2,3,4,14,17],fun x=>[.slice (some (bk,0)) n n,.int .i64 a,.int .i64 m,.int .i64 b,.func (.func g) [] [],.int .i64 x.1,.int .i64 x.2],fun _ _ _=>True⟩,⟨200032,Int×Int×Int×Int,[0,1,2,3,4,18,19,20,21],fun x=>[.slice (some (bk,0)) n n,.int .i64 a,.int .i64 m,.int .i64 b,.func (.func g) [] [],.int .i64 x.1,.int .i64 x.2.1,.int .i64 x.2.2.1,.int .i64 x.2.2.2],fun _ _ _=>True⟩,⟨33,Int×Int×Int×Int×Int,[0,1,2,3,4,18,19,20,21,22],fun x=>[.slice (some (bk,0)) n n,.int .i64 a,.int .i64 m,.int .i64 b,.func (.func g) [] [],.int .i64 x.1,.int .i64 x.2.1,.int .i64 x.2.2.1,.int .i64 x.2.2.2.1,.int .i64 x.2.2.2.2],fun _ _ _=>True⟩,⟨200041,Int×Int×Int,[0,1,2,3,4,18,20,24],fun x=>[.slice (some (bk,0)) n n,.int .i64 a,.int .i64 m,.int .i64 b,.func (.func g) [] [],.int .i64 x.1,.int .i64 x.2.1,.int .i64 x.2.2],fun _ _ _=>True⟩,⟨200043,Int×Int×Int,[0,1,2,3,4,18,20,24],fun x=>[.slice (some (bk,0)) n n,.int .i64 a,.int .i64 m,.int .i64 b,.func (.func g) [] [],.int .i64 x.1,.int .i64 x.2.1,.int .i64 x.2.2],fun _ _ _=>True⟩] [] 117 [.slice (some (bk,0)) n n,.int .i64 a,.int .i64 m,.int .i64 b,.func (.func g) [] []] H Q) =
(bif (X none).wrap i64 (m - a) == (1:Int) then
∃(x1:Int×Int→AH→Nat→Prop),
(∃(x2:Int×Int),
∃(k1:Nat),
[slice (some (bk,0)) n n,int i64 a,int i64 m,int i64 b,AV.func (Fn.func (g:FuncId)) [] [],int i64 m,int i64 b] =
[slice (some (bk,0)) n n,int i64 a,int i64 m,int i64 b,AV.func (Fn.func (g:FuncId)) [] [],int i64 x2.1,int i64 x2.2] ∧
x1 x2 H k1) ∧
∀(x3:Int×Int) (H1:AH) (k2:Nat),
x1 x3 H1 k2 →
bif decide (x3.1<x3.2) then
(0:Int)≤(1:Int) ∧
∃(k3 k4:Nat),
(some (bk,0)=some (k3,k4) ∧
(0:Int)≤(X none).wrap i64 (((X none).wrap u64 ((X none).wrap i64 (x3.1+x3.2))).fdiv (2:Int)) ∧
(X none).wrap i64 (((X none).wrap u64 ((X none).wrap i64 (x3.1+x3.2))).fdiv (2:Int))<(↑n:Int)) ∧
∃(n1 n2 n3 n4:Int),
(X none).bP H1 k3 (k4+((X none).wrap i64 (((X none).wrap u64 ((X none).wrap i64 (x3.1+x3.2))).fdiv (2:Int))).toNat*4) 4 =
some [int i64 n1,int i64 n2,int i64 n3,int i64 n4] ∧
∃(k5 k6:Nat),
(some (bk,(0:Nat))=some (k5,k6)∧(0:Int)≤a∧a<(↑n:Int)) ∧
∃(n5 n6 n7 n8:Int),
(X none).bP H1 k5 (k6+a.toNat*4) 4=some [int i64 n5,int i64 n6,int i64 n7,int i64 n8] ∧
(X none).call (g:FuncId)
[agg [int i64 n1,int i64 n2,int i64 n3,int i64 n4],
agg [int i64 n5,int i64 n6,int i64 n7,int i64 n8]]
H1 fun (v1:AV) (H2:AH) =>
∃(n9:Int),
v1=int i64 n9 ∧
bif decide (n9<(0:Int)) then
∃(x4:Int×Int),
∃(k7:Nat),
k7<k2 ∧
[slice (some (bk,0)) n n,int i64 a,int i64 m,int i64 b,AV.func (Fn.func (g:FuncId)) [] [],
int i64
((X none).wrap i64 ((X none).wrap i64 (((X none).wrap u64 ((X none).wrap i64 (x3.1+x3.2))).fdiv (2:Int))+(1:Int))),
int i64 x3.2] =
[slice (some (bk,0)) n n,int i64 a,int i64 m,int i64 b,AV.func (Fn.func (g:FuncId)) [] [],int i64 x4.1,
int i64 x4.2] ∧
x1 x4 H2 k7
else
∃(x5:Int×Int),
∃(k8:Nat),
k8<k2 ∧
[slice (some (bk,0)) n n,int i64 a,int i64 m,int i64 b,AV.func (Fn.func (g:FuncId)) [] [],int i64 x3.1,
int i64 ((X none).wrap i64 (((X none).wrap u64 ((X none).wrap i64 (x3.1+x3.2))).fdiv (2:Int)))] =
[slice (some (bk,0)) n n,int i64 a,int i64 m,int i64 b,AV.func (Fn.func (g:FuncId)) [] [],int i64 x5.1,
int i64 x5.2] ∧
x1 x5 H2 k8
else
∃(x6:Int×Int→AH→Nat→Prop),
(∃(x7:Int×Int),
∃(k9:Nat),
[slice (some (bk,0)) n n,int i64 a,int i64 m,int i64 b,AV.func (Fn.func (g:FuncId)) [] [],int i64 x3.1,int i64 a] =
[slice (some (bk,0)) n n,int i64 a,int i64 m,int i64 b,AV.func (Fn.func (g:FuncId)) [] [],int i64 x7.1,int i64 x7.2] ∧
x6 x7 H1 k9) ∧
∀(x8:Int×Int) (H3:AH) (nO:Nat),
x6 x8 H3 nO →
bif decide (x8.2<(X none).wrap i64 (x8.1 - (1:Int))) then
∃(gQ mF:Nat),
(some (bk,(0:Nat))=some (gQ,mF)∧(0:Int)≤(X none).wrap i64 (x8.2+(1:Int))∧(X none).wrap i64 (x8.2+(1:Int))<(↑n:Int)) ∧
∃(fO iL kI jQ:Int),
(X none).bP H3 gQ (mF+((X none).wrap i64 (x8.2+(1:Int))).toNat*4) 4 =
some [int i64 fO,int i64 iL,int i64 kI,int i64 jQ] ∧
∃(nN kQ:Nat),
(some (bk,(0:Nat))=some (nN,kQ)∧(0:Int)≤x8.2∧x8.2<(↑n:Int)) ∧
∃(kX mS pW r8:Int),
(X none).bP H3 nN (kQ+x8.2.toNat*4) 4=some [int i64 kX,int i64 mS,int i64 pW,int i64 r8] ∧
∃(nh rJ:Nat),
(some (bk,(0:Nat))=some (nh,rJ)∧(0:Int)≤x8.2∧x8.2<(↑n:Int)) ∧
[int i64 fO,int i64 iL,int i64 kI,int i64 jQ].length=4 ∧
∃(H4:AH),
(X none).wr H3 nh (rJ+x8.2.toNat*4) [int i64 fO,int i64 iL,int i64 kI,int i64 jQ]=some H4 ∧
∃(kP oV:Nat),
(some (bk,(0:Nat))=some (kP,oV)∧(0:Int)≤(X none).wrap i64 (x8.2+(1:Int))∧(X none).wrap i64 (x8.2+(1:Int))<(↑n:Int)) ∧
[int i64 kX,int i64 mS,int i64 pW,int i64 r8].length=4 ∧
∃(H5:AH),
(X none).wr H4 kP (oV+((X none).wrap i64 (x8.2+(1:Int))).toNat*4)
[int i64 kX,int i64 mS,int i64 pW,int i64 r8] =
some H5 ∧
∃(x9:Int×Int),
∃(uN:Nat),
uN<nO ∧
[slice (some (bk,0)) n n,int i64 a,int i64 m,int i64 b,AV.func (Fn.func (g:FuncId)) [] [],
int i64 x8.1,int i64 ((X none).wrap i64 (x8.2+(1:Int)))] =
[slice (some (bk,0)) n n,int i64 a,int i64 m,int i64 b,AV.func (Fn.func (g:FuncId)) [] [],
int i64 x9.1,int i64 x9.2] ∧
x6 x9 H5 uN
else Q (tuple []) H3
else
bif (X none).wrap i64 (b - m) == (1:Int) then
∃(bW:Int×Int→AH→Nat→Prop),
(∃(dB:Int×Int),
∃(Ck:Nat),
[slice (some (bk,0)) n n,int i64 a,int i64 m,int i64 b,AV.func (Fn.func (g:FuncId)) [] [],int i64 a,int i64 m] =
[slice (some (bk,0)) n n,int i64 a,int i64 m,int i64 b,AV.func (Fn.func (g:FuncId)) [] [],int i64 dB.1,int i64 dB.2] ∧
bW dB H Ck) ∧
∀(eD:Int×Int) (H6:AH) (sk:Nat),
bW eD H6 sk →
bif decide (eD.1<eD.2) then
(0:Int)≤(1:Int) ∧
∃(qQ qP:Nat),
(some (bk,(0:Nat))=some (qQ,qP)∧(0:Int)≤m∧m<(↑n:Int)) ∧
∃(uL xQ vL Bc:Int),
(X none).bP H6 qQ (qP+m.toNat*4) 4=some [int i64 uL,int i64 xQ,int i64 vL,int i64 Bc] ∧
∃(sj Dy:Nat),
(some (bk,0)=some (sj,Dy) ∧
(0:Int)≤(X none).wrap i64 (((X none).wrap u64 ((X none).wrap i64 (eD.1+eD.2))).fdiv (2:Int)) ∧
(X none).wrap i64 (((X none).wrap u64 ((X none).wrap i64 (eD.1+eD.2))).fdiv (2:Int))<(↑n:Int)) ∧
∃(Dr B9 EZ EY:Int),
(X none).bP H6 sj (Dy+((X none).wrap i64 (((X none).wrap u64 ((X none).wrap i64 (eD.1+eD.2))).fdiv (2:Int))).toNat*4) 4 =
some [int i64 Dr,int i64 B9,int i64 EZ,int i64 EY] ∧
(X none).call (g:FuncId)
[agg [int i64 uL,int i64 xQ,int i64 vL,int i64 Bc],
agg [int i64 Dr,int i64 B9,int i64 EZ,int i64 EY]]
H6 fun (v2:AV) (H7:AH) =>
∃(EX:Int),
v2=int i64 EX ∧
bif !decide (EX<(0:Int)) then
∃(jT:Int×Int),
∃(Ak:Nat),
Ak<sk ∧
[slice (some (bk,0)) n n,int i64 a,int i64 m,int i64 b,AV.func (Fn.func (g:FuncId)) [] [],
int i64
((X none).wrap i64 ((X none).wrap i64 (((X none).wrap u64 ((X none).wrap i64 (eD.1+eD.2))).fdiv (2:Int))+(1:Int))),
int i64 eD.2] =
[slice (some (bk,0)) n n,int i64 a,int i64 m,int i64 b,AV.func (Fn.func (g:FuncId)) [] [],int i64 jT.1,
int i64 jT.2] ∧
bW jT H7 Ak
else
∃(cQ:Int×Int),
∃(vU:Nat),
vU<sk ∧
[slice (some (bk,0)) n n,int i64 a,int i64 m,int i64 b,AV.func (Fn.func (g:FuncId)) [] [],int i64 eD.1,
int i64 ((X none).wrap i64 (((X none).wrap u64 ((X none).wrap i64 (eD.1+eD.2))).fdiv (2:Int)))] =
[slice (some (bk,0)) n n,int i64 a,int i64 m,int i64 b,AV.func (Fn.func (g:FuncId)) [] [],int i64 cQ.1,
int i64 cQ.2] ∧
bW cQ H7 vU
else
∃(bD:Int×Int→AH→Nat→Prop),
(∃(uJ:Int×Int),
∃(Cj:Nat),
[slice (some (bk,0)) n n,int i64 a,int i64 m,int i64 b,AV.func (Fn.func (g:FuncId)) [] [],int i64 eD.1,int i64 m] =
[slice (some (bk,0)) n n,int i64 a,int i64 m,int i64 b,AV.func (Fn.func (g:FuncId)) [] [],int i64 uJ.1,int i64 uJ.2] ∧
bD uJ H6 Cj) ∧
∀(fy:Int×Int) (H8:AH) (Gd:Nat),
bD fy H8 Gd →
bif decide (fy.2 > fy.1) then
∃(Fe HU:Nat),
(some (bk,(0:Nat))=some (Fe,HU)∧(0:Int)≤(X none).wrap i64 (fy.2 - (1:Int))∧(X none).wrap i64 (fy.2 - (1:Int))<(↑n:Int)) ∧
∃(Dq Dp HH Km:Int),
(X none).bP H8 Fe (HU+((X none).wrap i64 (fy.2 - (1:Int))).toNat*4) 4 =
some [int i64 Dq,int i64 Dp,int i64 HH,int i64 Km] ∧
∃(HT HS:Nat),
(some (bk,(0:Nat))=some (HT,HS)∧(0:Int)≤fy.2∧fy.2<(↑n:Int)) ∧
∃(Kl Jq HG Kk:Int),
(X none).bP H8 HT (HS+fy.2.toNat*4) 4=some [int i64 Kl,int i64 Jq,int i64 HG,int i64 Kk] ∧
∃(HQ Gc:Nat),
(some (bk,(0:Nat))=some (HQ,Gc)∧(0:Int)≤fy.2∧fy.2<(↑n:Int)) ∧
[int i64 Dq,int i64 Dp,int i64 HH,int i64 Km].length=4 ∧
∃(H9:AH),
(X none).wr H8 HQ (Gc+fy.2.toNat*4) [int i64 Dq,int i64 Dp,int i64 HH,int i64 Km]=some H9 ∧
∃(Gb Mf:Nat),
(some (bk,(0:Nat))=some (Gb,Mf)∧(0:Int)≤(X none).wrap i64 (fy.2 - (1:Int))∧(X none).wrap i64 (fy.2 - (1:Int))<(↑n:Int)) ∧
[int i64 Kl,int i64 Jq,int i64 HG,int i64 Kk].length=4 ∧
∃(kN:AH),
(X none).wr H9 Gb (Mf+((X none).wrap i64 (fy.2 - (1:Int))).toNat*4)
[int i64 Kl,int i64 Jq,int i64 HG,int i64 Kk] =
some kN ∧
∃(bR:Int×Int),
∃(Me:Nat),
Me<Gd ∧
[slice (some (bk,0)) n n,int i64 a,int i64 m,int i64 b,AV.func (Fn.func (g:FuncId)) [] [],
int i64 fy.1,int i64 ((X none).wrap i64 (fy.2 - (1:Int)))] =
[slice (some (bk,0)) n n,int i64 a,int i64 m,int i64 b,AV.func (Fn.func (g:FuncId)) [] [],
int i64 bR.1,int i64 bR.2] ∧
bD bR kN Me
else Q (tuple []) H8
else
(0:Int)≤(1:Int) ∧
∃(jP:Int×Int×Int×Int→AH→Prop),
(bif decide (m > (X none).wrap i64 (((X none).wrap u64 ((X none).wrap i64 (a+b))).fdiv ((2:Int) ^ min (Int.toNat (1:Int)) u64.bits))) then
∃(dA:Int×Int×Int×Int),
∃(_k39:Nat),
True ∧
[slice (some (bk,0)) n n,int i64 a,int i64 m,int i64 b,AV.func (Fn.func (g:FuncId)) [] [],
int i64 ((X none).wrap i64 (((X none).wrap u64 ((X none).wrap i64 (a+b))).fdiv (2:Int))),
int i64 ((X none).wrap i64 ((X none).wrap i64 (((X none).wrap u64 ((X none).wrap i64 (a+b))).fdiv (2:Int))+m)),
int i64 ((X none).wrap i64 ((X none).wrap i64 ((X none).wrap i64 (((X none).wrap u64 ((X none).wrap i64 (a+b))).fdiv (2:Int))+m) - b)),
int i64 ((X none).wrap i64 (((X none).wrap u64 ((X none).wrap i64 (a+b))).fdiv (2:Int)))] =
[slice (some (bk,0)) n n,int i64 a,int i64 m,int i64 b,AV.func (Fn.func (g:FuncId)) [] [],int i64 dA.1,int i64 dA.2.1,
int i64 dA.2.2.1,int i64 dA.2.2.2] ∧
jP dA H
else
∃(fN:Int×Int×Int×Int),
∃(_k40:Nat),
True ∧
[slice (some (bk,0)) n n,int i64 a,int i64 m,int i64 b,AV.func (Fn.func (g:FuncId)) [] [],
int i64 ((X none).wrap i64 (((X none).wrap u64 ((X none).wrap i64 (a+b))).fdiv (2:Int))),
int i64 ((X none).wrap i64 ((X none).wrap i64 (((X none).wrap u64 ((X none).wrap i64 (a+b))).fdiv (2:Int))+m)),int i64 a,int i64 m] =
[slice (some (bk,0)) n n,int i64 a,int i64 m,int i64 b,AV.func (Fn.func (g:FuncId)) [] [],int i64 fN.1,int i64 fN.2.1,
int i64 fN.2.2.1,int i64 fN.2.2.2] ∧
jP fN H) ∧
∀(fu:Int×Int×Int×Int) (oe:AH),
jP fu oe →
∃(fQ:Int×Int×Int×Int×Int→AH→Nat→Prop),
(∃(cY:Int×Int×Int×Int×Int),
∃(P0:Nat),
[slice (some (bk,0)) n n,int i64 a,int i64 m,int i64 b,AV.func (Fn.func (g:FuncId)) [] [],int i64 fu.1,int i64 fu.2.1,
int i64 fu.2.2.1,int i64 fu.2.2.2,int i64 ((X none).wrap i64 (fu.2.1 - (1:Int)))] =
[slice (some (bk,0)) n n,int i64 a,int i64 m,int i64 b,AV.func (Fn.func (g:FuncId)) [] [],int i64 cY.1,int i64 cY.2.1,
int i64 cY.2.2.1,int i64 cY.2.2.2.1,int i64 cY.2.2.2.2] ∧
fQ cY oe P0) ∧
∀(c9:Int×Int×Int×Int×Int) (uS:AH) (ON:Nat),
fQ c9 uS ON →
bif decide (c9.2.2.1<c9.2.2.2.1) then
(0:Int)≤(1:Int) ∧
∃(NC Md:Nat),
(some (bk,0)=some (NC,Md) ∧
(0:Int)≤(X none).wrap i64 (c9.2.2.2.2 - (X none).wrap i64 (((X none).wrap u64 ((X none).wrap i64 (c9.2.2.1+c9.2.2.2.1))).fdiv (2:Int))) ∧
(X none).wrap i64 (c9.2.2.2.2 - (X none).wrap i64 (((X none).wrap u64 ((X none).wrap i64 (c9.2.2.1+c9.2.2.2.1))).fdiv (2:Int)))<(↑n:Int)) ∧
∃(Ma Jp Ga L9:Int),
(X none).bP uS NC
(Md +
((X none).wrap i64
(c9.2.2.2.2 - (X none).wrap i64 (((X none).wrap u64 ((X none).wrap i64 (c9.2.2.1+c9.2.2.2.1))).fdiv (2:Int)))).toNat *
4)
4 =
some [int i64 Ma,int i64 Jp,int i64 Ga,int i64 L9] ∧
∃(Mc Mb:Nat),
(some (bk,0)=some (Mc,Mb) ∧
(0:Int)≤(X none).wrap i64 (((X none).wrap u64 ((X none).wrap i64 (c9.2.2.1+c9.2.2.2.1))).fdiv (2:Int)) ∧
(X none).wrap i64 (((X none).wrap u64 ((X none).wrap i64 (c9.2.2.1+c9.2.2.2.1))).fdiv (2:Int))<(↑n:Int)) ∧
∃(L8 L7 L6 L5:Int),
(X none).bP uS Mc
(Mb+((X none).wrap i64 (((X none).wrap u64 ((X none).wrap i64 (c9.2.2.1+c9.2.2.2.1))).fdiv (2:Int))).toNat*4) 4 =
some [int i64 L8,int i64 L7,int i64 L6,int i64 L5] ∧
(X none).call (g:FuncId)
[agg [int i64 Ma,int i64 Jp,int i64 Ga,int i64 L9],
agg [int i64 L8,int i64 L7,int i64 L6,int i64 L5]]
uS fun (v3:AV) (mR:AH) =>
∃(PO:Int),
v3=int i64 PO ∧
bif !decide (PO<(0:Int)) then
∃(fP:Int×Int×Int×Int×Int),
∃(NA:Nat),
NA<ON ∧
[slice (some (bk,0)) n n,int i64 a,int i64 m,int i64 b,AV.func (Fn.func (g:FuncId)) [] [],
int i64 c9.1,int i64 c9.2.1,
int i64
((X none).wrap i64
((X none).wrap i64 (((X none).wrap u64 ((X none).wrap i64 (c9.2.2.1+c9.2.2.2.1))).fdiv (2:Int))+(1:Int))),
int i64 c9.2.2.2.1,int i64 c9.2.2.2.2] =
[slice (some (bk,0)) n n,int i64 a,int i64 m,int i64 b,AV.func (Fn.func (g:FuncId)) [] [],
int i64 fP.1,int i64 fP.2.1,int i64 fP.2.2.1,int i64 fP.2.2.2.1,
int i64 fP.2.2.2.2] ∧
fQ fP mR NA
else
∃(jS:Int×Int×Int×Int×Int),
∃(OM:Nat),
OM<ON ∧
[slice (some (bk,0)) n n,int i64 a,int i64 m,int i64 b,AV.func (Fn.func (g:FuncId)) [] [],
int i64 c9.1,int i64 c9.2.1,int i64 c9.2.2.1,
int i64 ((X none).wrap i64 (((X none).wrap u64 ((X none).wrap i64 (c9.2.2.1+c9.2.2.2.1))).fdiv (2:Int))),
int i64 c9.2.2.2.2] =
[slice (some (bk,0)) n n,int i64 a,int i64 m,int i64 b,AV.func (Fn.func (g:FuncId)) [] [],
int i64 jS.1,int i64 jS.2.1,int i64 jS.2.2.1,int i64 jS.2.2.2.1,
int i64 jS.2.2.2.2] ∧
fQ jS mR OM
else
∃(nx:Int×Int×Int→AH→Prop),
(bif decide (c9.2.2.1<m) && decide (m<(X none).wrap i64 (c9.2.1 - c9.2.2.1)) then
(X none).call 118
[slice (some (bk,0)) n n,int i64 c9.2.2.1,int i64 m,int i64 ((X none).wrap i64 (c9.2.1 - c9.2.2.1)),
AV.func (Fn.func (g:FuncId)) [] []]
uS fun (_v4:AV) (uR:AH) =>
∃(yW:Int×Int×Int),
∃(_k49:Nat),
True ∧
[slice (some (bk,0)) n n,int i64 a,int i64 m,int i64 b,AV.func (Fn.func (g:FuncId)) [] [],int i64 c9.1,
int i64 c9.2.2.1,int i64 ((X none).wrap i64 (c9.2.1 - c9.2.2.1))] =
[slice (some (bk,0)) n n,int i64 a,int i64 m,int i64 b,AV.func (Fn.func (g:FuncId)) [] [],int i64 yW.1,
int i64 yW.2.1,int i64 yW.2.2] ∧
nx yW uR
else
∃(R3:Int×Int×Int),
∃(_k50:Nat),
True ∧
[slice (some (bk,0)) n n,int i64 a,int i64 m,int i64 b,AV.func (Fn.func (g:FuncId)) [] [],int i64 c9.1,
int i64 c9.2.2.1,int i64 ((X none).wrap i64 (c9.2.1 - c9.2.2.1))] =
[slice (some (bk,0)) n n,int i64 a,int i64 m,int i64 b,AV.func (Fn.func (g:FuncId)) [] [],int i64 R3.1,
int i64 R3.2.1,int i64 R3.2.2] ∧
nx R3 uS) ∧
∀(F8:Int×Int×Int) (mU:AH),
nx F8 mU →
∃(S9:Int×Int×Int→AH→Prop),
(bif decide (a<F8.2.1) && decide (F8.2.1<F8.1) then
(X none).call 117 [slice (some (bk,0)) n n,int i64 a,int i64 F8.2.1,int i64 F8.1,AV.func (Fn.func (g:FuncId)) [] []] mU
fun (_v5:AV) (vl:AH) =>
∃(R2:Int×Int×Int),
∃(_k51:Nat),
True ∧
[slice (some (bk,0)) n n,int i64 a,int i64 m,int i64 b,AV.func (Fn.func (g:FuncId)) [] [],int i64 F8.1,
int i64 F8.2.1,int i64 F8.2.2] =
[slice (some (bk,0)) n n,int i64 a,int i64 m,int i64 b,AV.func (Fn.func (g:FuncId)) [] [],int i64 R2.1,
int i64 R2.2.1,int i64 R2.2.2] ∧
S9 R2 vl
else
∃(R1:Int×Int×Int),
∃(_k52:Nat),
True ∧
[slice (some (bk,0)) n n,int i64 a,int i64 m,int i64 b,AV.func (Fn.func (g:FuncId)) [] [],int i64 F8.1,
int i64 F8.2.1,int i64 F8.2.2] =
[slice (some (bk,0)) n n,int i64 a,int i64 m,int i64 b,AV.func (Fn.func (g:FuncId)) [] [],int i64 R1.1,
int i64 R1.2.1,int i64 R1.2.2] ∧
S9 R1 mU) ∧
∀(OE:Int×Int×Int) (Bj:AH),
S9 OE Bj →
bif decide (OE.1<OE.2.2) && decide (OE.2.2<b) then
(X none).call 117 [slice (some (bk,0)) n n,int i64 OE.1,int i64 OE.2.2,int i64 b,AV.func (Fn.func (g:FuncId)) [] []] Bj
fun (_v6:AV) (uF:AH)=>Q (tuple []) uF
else Q (tuple []) Bj):=by rcases hg with rfl | rfl <;> kernel_rfl
theorem Eg (X:Option Nat→aN) (It:FuncId→List AV→List AV→(AH→Prop)→List (List AV)→Prop) (bk n:Nat) (g:Nat) (hg:g=111∨g=100) (H:AH) (Q:AV→AH→Prop):(oh X It Tryd.prog [⟨2,Int×Int×Int,[0,1,2,6,7,8],fun x=>[.slice (some (bk,0)) n n,.int .i64 n,.func (.func g) [] [],.int .i64 x.1,.int .i64 x.2.1,.int .i64 x.2.2],fun _ _ _=>True⟩,⟨7,Int,[0,1,2,6],fun x=>[.slice (some (bk,0)) n n,.int .i64 n,.func (.func g) [] [],.int .i64 x],fun _ _ _=>True⟩,⟨9,Int×Int×Int,[0,1,2,6,7,8],fun x=>[.slice (some (bk,0)) n n,.int .i64 n,.func (.func g) [] [],.int .i64 x.1,.int .i64 x.2.1,.int .i64 x.2.2],fun _ _ _=>True⟩,⟨200016,Int,[0,1,2,6],fun x=>[.slice (some (bk,0)) n n,.int .i64 n,.func (.func g) [] [],.int .i64 x],fun _ _ _=>True⟩] [] 113 [.slice (some (bk,0)) n n,.int .i64 n,.func (.func g) [] []] H Q) =
(∃(x1:Int×Int×Int→AH→Nat→Prop),
(∃(x2:Int×Int×Int),
∃(k1:Nat),
[slice (some (bk,(0:Nat))) n n,int i64 (↑n:Int),AV.func (Fn.func (g:FuncId)) [] [],int i64 20,int i64 0,int i64 20] =
[slice (some (bk,(0:Nat))) n n,int i64 (↑n:Int),AV.func (Fn.func (g:FuncId)) [] [],int i64 x2.1,int i64 x2.2.1,int i64 x2.2.2] ∧
x1 x2 H k1) ∧
∀(x3:Int×Int×Int) (H1:AH) (k2:Nat),
x1 x3 H1 k2 →
bif decide (x3.2.2≤(↑n:Int)) then
(X none).call 116 [slice (some (bk,0)) n n,int i64 x3.2.1,int i64 x3.2.2,AV.func (Fn.func (g:FuncId)) [] []] H1 fun (_v1:AV) (H2:AH) =>
∃(x4:Int×Int×Int),
∃(k3:Nat),
k3<k2 ∧
[slice (some (bk,(0:Nat))) n n,int i64 (↑n:Int),AV.func (Fn.func (g:FuncId)) [] [],int i64 x3.1,int i64 x3.2.2,
int i64 ((X none).wrap i64 (x3.2.2+x3.1))] =
[slice (some (bk,(0:Nat))) n n,int i64 (↑n:Int),AV.func (Fn.func (g:FuncId)) [] [],int i64 x4.1,int i64 x4.2.1,int i64 x4.2.2] ∧
x1 x4 H2 k3
else
(X none).call (116:Nat) [slice (some (bk,(0:Nat))) n n,int i64 x3.2.1,int i64 (↑n:Int),AV.func (Fn.func (g:FuncId)) [] []] H1 fun (_v2:AV) (H3:AH) =>
∃(x5:Int→AH→Nat→Prop),
(∃(n1:Int),
∃(k4:Nat),
[slice (some (bk,(0:Nat))) n n,int i64 (↑n:Int),AV.func (Fn.func (g:FuncId)) [] [],int i64 x3.1] =
[slice (some (bk,(0:Nat))) n n,int i64 (↑n:Int),AV.func (Fn.func (g:FuncId)) [] [],int i64 n1] ∧
x5 n1 H3 k4) ∧
∀(n2:Int) (H4:AH) (k5:Nat),
x5 n2 H4 k5 →
bif decide (n2<(↑n:Int)) then
∃(x6:Int×Int×Int→AH→Nat→Prop),
(∃(x7:Int×Int×Int),
∃(k6:Nat),
[slice (some (bk,(0:Nat))) n n,int i64 (↑n:Int),AV.func (Fn.func (g:FuncId)) [] [],int i64 n2,int i64 0,
int i64 ((X none).wrap i64 ((2:Int)*n2))] =
[slice (some (bk,(0:Nat))) n n,int i64 (↑n:Int),AV.func (Fn.func (g:FuncId)) [] [],int i64 x7.1,int i64 x7.2.1,int i64 x7.2.2] ∧
x6 x7 H4 k6) ∧
∀(x8:Int×Int×Int) (H5:AH) (k7:Nat),
x6 x8 H5 k7 →
bif decide (x8.2.2≤(↑n:Int)) then
(X none).call 117
[slice (some (bk,0)) n n,int i64 x8.2.1,int i64 ((X none).wrap i64 (x8.2.1+x8.1)),int i64 x8.2.2,
AV.func (Fn.func (g:FuncId)) [] []]
H5 fun (_v3:AV) (H6:AH) =>
∃(x9:Int×Int×Int),
∃(k8:Nat),
k8<k7 ∧
[slice (some (bk,(0:Nat))) n n,int i64 (↑n:Int),AV.func (Fn.func (g:FuncId)) [] [],int i64 x8.1,int i64 x8.2.2,
int i64 ((X none).wrap i64 (x8.2.2+(X none).wrap i64 ((2:Int)*x8.1)))] =
[slice (some (bk,(0:Nat))) n n,int i64 (↑n:Int),AV.func (Fn.func (g:FuncId)) [] [],int i64 x9.1,int i64 x9.2.1,
int i64 x9.2.2] ∧
x6 x9 H6 k8
else
∃(bW:Int→AH→Prop),
(bif decide ((X none).wrap i64 (x8.2.1+x8.1)<(↑n:Int)) then
(X none).call 117
[slice (some (bk,(0:Nat))) n n,int i64 x8.2.1,int i64 ((X none).wrap i64 (x8.2.1+x8.1)),int i64 (↑n:Int),
AV.func (Fn.func (g:FuncId)) [] []]
H5 fun (_v4:AV) (H7:AH) =>
∃(n3:Int),
∃(_k9:Nat),
True ∧
[slice (some (bk,(0:Nat))) n n,int i64 (↑n:Int),AV.func (Fn.func (g:FuncId)) [] [],int i64 x8.1] =
[slice (some (bk,(0:Nat))) n n,int i64 (↑n:Int),AV.func (Fn.func (g:FuncId)) [] [],int i64 n3] ∧
bW n3 H7
else
∃(n4:Int),
∃(_k10:Nat),
True ∧
[slice (some (bk,(0:Nat))) n n,int i64 (↑n:Int),AV.func (Fn.func (g:FuncId)) [] [],int i64 x8.1] =
[slice (some (bk,(0:Nat))) n n,int i64 (↑n:Int),AV.func (Fn.func (g:FuncId)) [] [],int i64 n4] ∧
bW n4 H5) ∧
∀(n5:Int) (H8:AH),
bW n5 H8 →
∃(n6:Int),
∃(gQ:Nat),
gQ<k5 ∧
[slice (some (bk,(0:Nat))) n n,int i64 (↑n:Int),AV.func (Fn.func (g:FuncId)) [] [],int i64 ((X none).wrap i64 (n5*(2:Int)))] =
[slice (some (bk,(0:Nat))) n n,int i64 (↑n:Int),AV.func (Fn.func (g:FuncId)) [] [],int i64 n6] ∧
x5 n6 H8 gQ
else Q (tuple []) H4):=by rcases hg with rfl | rfl <;> kernel_rfl
theorem GO (X:Option Nat→aN) (It:FuncId→List AV→List AV→(AH→Prop)→List (List AV)→Prop) (bk n:Nat) (g:Nat) (hg:g=111∨g=100) (H:AH) (Q:AV→AH→Prop):(oh X It Tryd.prog [] [] 99 [.slice (some (bk,0)) n n,.func (.func g) [] []] H Q) =
((X none).call (113:Nat) [slice (some (bk,(0:Nat))) n n,int i64 (↑n:Int),AV.func (Fn.func (g:FuncId)) [] []] H fun (_v1:AV) (H1:AH)=>Q (tuple []) H1):=by rcases hg with rfl | rfl <;> kernel_rfl
theorem Lv (X:Option Nat→aN) (It:FuncId→List AV→List AV→(AH→Prop)→List (List AV)→Prop) (x1 x2 x3 x4 y1 y2 y3 y4:Int) (H:AH) (Q:AV→AH→Prop):(oh X It Tryd.prog [] [] 111 [.agg [.int .i64 x1,.int .i64 x2,.int .i64 x3,.int .i64 x4],.agg [.int .i64 y1,.int .i64 y2,.int .i64 y3,.int .i64 y4]] H Q) =
(true=true ∧
true=true ∧
∃(n1:Int),
(X none).aM
((X none).al ((X none).al H (cells [int i64 x1,int i64 x2,int i64 x3,int i64 x4] 41 { whole:=true }))
(cells [int i64 y1,int i64 y2,int i64 y3,int i64 y4] 41 { whole:=true }))
((X none).n H) 0 =
some (int i64 n1) ∧
∃(n2:Int),
(X none).aM
((X none).al ((X none).al H (cells [int i64 x1,int i64 x2,int i64 x3,int i64 x4] 41 { whole:=true }))
(cells [int i64 y1,int i64 y2,int i64 y3,int i64 y4] 41 { whole:=true }))
((X none).n ((X none).al H (cells [int i64 x1,int i64 x2,int i64 x3,int i64 x4] 41 { whole:=true }))) 0 =
some (int i64 n2) ∧
∃(n3:Int),
(X none).aM
((X none).al ((X none).al H (cells [int i64 x1,int i64 x2,int i64 x3,int i64 x4] 41 { whole:=true }))
(cells [int i64 y1,int i64 y2,int i64 y3,int i64 y4] 41 { whole:=true }))
((X none).n ((X none).al H (cells [int i64 x1,int i64 x2,int i64 x3,int i64 x4] 41 { whole:=true }))) 1 =
some (int i64 n3) ∧
∃(n4:Int),
(X none).aM
((X none).al ((X none).al H (cells [int i64 x1,int i64 x2,int i64 x3,int i64 x4] 41 { whole:=true }))
(cells [int i64 y1,int i64 y2,int i64 y3,int i64 y4] 41 { whole:=true }))
((X none).n H) 1 =
some (int i64 n4) ∧
∃(n5:Int),
(X none).aM
((X none).al ((X none).al H (cells [int i64 x1,int i64 x2,int i64 x3,int i64 x4] 41 { whole:=true }))
(cells [int i64 y1,int i64 y2,int i64 y3,int i64 y4] 41 { whole:=true }))
((X none).n H) 2 =
some (int i64 n5) ∧
∃(n6:Int),
(X none).aM
((X none).al ((X none).al H (cells [int i64 x1,int i64 x2,int i64 x3,int i64 x4] 41 { whole:=true }))
(cells [int i64 y1,int i64 y2,int i64 y3,int i64 y4] 41 { whole:=true }))
((X none).n ((X none).al H (cells [int i64 x1,int i64 x2,int i64 x3,int i64 x4] 41 { whole:=true }))) 2 =
some (int i64 n6) ∧
(X none).call 102 [int i64 n1,int i64 n2]
((X none).al ((X none).al H (cells [int i64 x1,int i64 x2,int i64 x3,int i64 x4] 41 { whole:=true }))
(cells [int i64 y1,int i64 y2,int i64 y3,int i64 y4] 41 { whole:=true }))
fun (v1:AV) (H1:AH) =>
∃(n7:Int),
v1=int i64 n7 ∧
(∃(n8:Int),
(X none).aM H1 ((X none).n ((X none).al H (cells [int i64 x1,int i64 x2,int i64 x3,int i64 x4] 41 { whole:=true }))) 2 =
some (int i64 n8) ∧
int i64 n8=int i64 n6) ∧
(∃(n9:Int),(X none).aM H1 ((X none).n H) 2=some (int i64 n9)∧int i64 n9=int i64 n5) ∧
(∃(fO:Int),(X none).aM H1 ((X none).n H) 1=some (int i64 fO)∧int i64 fO=int i64 n4) ∧
(∃(iL:Int),
(X none).aM H1 ((X none).n ((X none).al H (cells [int i64 x1,int i64 x2,int i64 x3,int i64 x4] 41 { whole:=true }))) 1 =
some (int i64 iL) ∧
int i64 iL=int i64 n3) ∧
(X none).call 102 [int i64 n3,int i64 n4] H1 fun (v2:AV) (H2:AH) =>
∃(kI:Int),
v2=int i64 kI ∧
(∃(jQ:Int),
(X none).aM H2 ((X none).n ((X none).al H (cells [int i64 x1,int i64 x2,int i64 x3,int i64 x4] 41 { whole:=true })))
2 =
some (int i64 jQ) ∧
int i64 jQ=int i64 n6) ∧
(∃(kX:Int),(X none).aM H2 ((X none).n H) 2=some (int i64 kX)∧int i64 kX=int i64 n5) ∧
(X none).call 102 [int i64 n5,int i64 n6] H2 fun (v3:AV) (H3:AH) =>
∃(mS:Int),
v3=int i64 mS ∧
(3≤16777216∧1=1∧0<1∧true=true∧true=true) ∧
(X none).call 101 [slice (some ((X none).n H3,0)) 3 3]
((X none).al H3 (cells [int i64 n7,int i64 kI,int i64 mS] 3 { whole:=true })) fun (v4:AV) (H4:AH) =>
∃(pW:Int),v4=int i64 pW∧Q (int i64 pW) H4):=by kernel_rfl
theorem IU (X:Option Nat→aN) (It:FuncId→List AV→List AV→(AH→Prop)→List (List AV)→Prop) (bk:Nat) (H:AH) (Q:AV→AH→Prop):(oh X It Tryd.prog [⟨3,Int,[3,6,7,8],fun x=>[.int .i64 0,.slice (some (bk,0)) 3 3,.int .i64 3,.int .i64 x],fun _ _ _=>True⟩] [] 101 [.slice (some (bk,0)) 3 3] H Q) =
(∃(x1:Int→AH→Nat→Prop),
(∃(n1:Int),
∃(k1:Nat),
[int i64 0,slice (some (bk,0)) 3 3,int i64 3,int i64 0] =
[int i64 0,slice (some (bk,0)) 3 3,int i64 3,int i64 n1] ∧
x1 n1 H k1) ∧
∀(n2:Int) (H1:AH) (k2:Nat),
x1 n2 H1 k2 →
bif decide (n2<(3:Int)) then
∃(k3 k4:Nat),
(some (bk,0)=some (k3,k4)∧(0:Int)≤n2∧n2<(3:Int)) ∧
∃(n3:Int),
(X none).aM H1 k3 (k4+n2.toNat*1)=some (int i64 n3) ∧
bif n3 != (0:Int) then Q (int i64 n3) H1
else
∃(n4:Int),
∃(k5:Nat),
k5<k2 ∧
[int i64 0,slice (some (bk,0)) 3 3,int i64 3,int i64 ((X none).wrap i64 (n2+(1:Int)))] =
[int i64 0,slice (some (bk,0)) 3 3,int i64 3,int i64 n4] ∧
x1 n4 H1 k5
else Q (int i64 0) H1):=by kernel_rfl
theorem CU (X:Option Nat→aN) (It:FuncId→List AV→List AV→(AH→Prop)→List (List AV)→Prop) (a b:Int) (H:AH) (Q:AV→AH→Prop):(oh X It Tryd.prog [] [] 102 [.int .i64 a,.int .i64 b] H Q) =
((X none).call 114 [int i64 a] H fun (v1:AV) (H1:AH) =>
∃(b1:Bool),
v1=bool b1 ∧
(X none).call 114 [int i64 b] H1 fun (v2:AV) (H2:AH) =>
∃(b2:Bool),
v2=bool b2 ∧
bif b1 then bif b2 then Q (int i64 0) H2 else Q (int i64 (-1:Int)) H2
else bif b2 then Q (int i64 1) H2 else bif decide (a<b) then Q (int i64 (-1:Int)) H2 else bif decide (a > b) then Q (int i64 1) H2 else Q (int i64 0) H2):=by kernel_rfl
theorem HV (X:Option Nat→aN) (It:FuncId→List AV→List AV→(AH→Prop)→List (List AV)→Prop) (a:Int) (H:AH) (Q:AV→AH→Prop):(oh X It Tryd.prog [] [] 114 [.int .i64 a] H Q) =
(Q (bool (a != a)) H):=by kernel_rfl
end Go.Proofs.YtlkdhhkncoekgaaDoor
