/- A scanner of mark in any state; what melts; what is passed over. -/
import Derived.Test.YtlkdhhkncoekgaaGreatDoorPlainA
import Derived.Test.YtlkdhhkncoekgaaGreatDoorUtf
import Derived.Test.YtlkdhhkncoekgaaGreatDoorSeamVc
/- A scanner of mark in any state: how the next sign is to look, and how signs are laid down. -/
section
namespace Go.Proofs.YtlkdhhkncoekgaaGreatDoor
open Go.Am Go
def bz (p:List UInt8×aj):List AV:=.str p.1 :: p.2.cells
theorem cL (p:List UInt8×aj):(bz p).length=6:=rfl
theorem Fu (p:List UInt8×aj):(bz p).all AV.one=true:=by simp [bz,aj.cells,AV.one]
def QT (n:Int):List AV:=[.int .i64 n]
structure St where
 d:Int
 s:List UInt8
 i:Nat
 so:List UInt8
 ps:List (List UInt8×aj)
 op:Nat→Int
 fk:List Int
 look:aj
 fr:Bool
 name:List UInt8
 side:Int
def St.cells (x:St) (so out Jw:AV):List AV :=
 [.int .i64 x.d,.str x.s,.int .i64 x.i,so,out,.int .i64 (x.op 0),.int .i64 (x.op 1),.int .i64 (x.op 2),.int .i64 (x.op 3),.int .i64 (x.op 4),Jw,.bool x.look.b,.bool x.look.i,.bool x.look.u,.bool x.look.k,.int .i64 x.look.c,.bool x.fr,.str x.name,.int .i64 x.side]
def St.now (x:St):aj:=bif x.d == 1 || x.d == 2 then ⟨decide (x.op 1 > 0),decide (x.op 2 > 0),decide (x.op 3 > 0),decide (x.op 4 > 0),x.fk.getLast?.getD 0⟩ else x.look
def tr (H:AH) (qc:Option Nat) (cap:Nat) (fk:List Int):Prop :=
 match qc with
 | none=>cap=0∧fk=[]
 | some b=>∃rest,H.get b=some (.cells (flat QT (fk ++ rest)) 3 { fD:=true })∧cap=(fk ++ rest).length
structure GD (H:AH) (p:Nat) (x:St) (qs qo qc:Option Nat) (cap:Nat):Prop where
 cells:H.get p=some (.cells (x.cells (sl qs x.so.length) (sl qo x.ps.length) (.slice (qc.map fun b=>(b,0)) x.fk.length cap)) 98 { whole:=true })
 lt:p<H.n
 bytes:bQ H qs x.so.length (aC x.so) 5
 pieces:bQ H qo x.ps.length (flat bz x.ps) 65
 TO:tr H qc cap x.fk
 bs : ∀b,qs=some b→p<b∧b<H.n
 bo : ∀b,qo=some b→p<b∧b<H.n
 bc : ∀b,qc=some b→p<b∧b<H.n
 ap : ∀b,qs=some b→qo ≠ some b∧qc ≠ some b
 ao : ∀b,qo=some b→qc ≠ some b
 Dh:x.fk.length≤5000000
theorem tr.same {H H' : AH} {qc:Option Nat} {cap:Nat} {fk:List Int} (h:tr H qc cap fk) (k : ∀b,qc=some b→H'.get b=H.get b):tr H' qc cap fk:=by
 cases qc with
 | none=>exact h
 | some b=>obtain ⟨rest,h1,h2⟩:=h;exact ⟨rest,(k b rfl).trans h1,h2⟩
theorem GD.eA {H H' : AH} {p:Nat} {x:St} {qs qo qc:Option Nat} {cap:Nat} (h:GD H p x qs qo qc cap) (hn:H.n≤H'.n) (k : ∀c,p≤c→c<H.n→H'.get c=H.get c):GD H' p x qs qo qc cap:=by
 obtain ⟨a1,a2,a3,a4,a5,a6,a7,a8,a9,JM,JL⟩:=h
 refine ⟨by rw [k p (Nat.le_refl p) a2];exact a1,by omega,a3.same fun b hb=>?_,a4.same fun b hb=>?_,a5.same fun b hb=>?_,fun b hb=>?_,fun b hb=>?_,fun b hb=>?_,a9,JM,JL⟩
 ·have:=a6 b hb;exact k b (by omega) this.2
 ·have:=a7 b hb;exact k b (by omega) this.2
 ·have:=a8 b hb;exact k b (by omega) this.2
 ·have:=a6 b hb;omega
 ·have:=a7 b hb;omega
 ·have:=a8 b hb;omega
theorem GD.put {H:AH} {p:Nat} {x y:St} {qs qo qc:Option Nat} {cap:Nat} (h:GD H p x qs qo qc cap) (e1:y.so=x.so) (e2:y.ps=x.ps) (e3:y.fk=x.fk) :
  GD (H.set p (.cells (y.cells (sl qs x.so.length) (sl qo x.ps.length) (.slice (qc.map fun b=>(b,0)) x.fk.length cap)) 98 { whole:=true })) p y qs qo qc cap:=by
 obtain ⟨a1,a2,a3,a4,a5,a6,a7,a8,a9,JM,JL⟩:=h
 refine ⟨by rw [AH.af,if_pos rfl,e1,e2,e3],a2,?_,?_,?_,a6,a7,a8,a9,JM,by rw [e3];exact JL⟩
 ·rw [e1];exact a3.same fun b hb=>by have:=a6 b hb;rw [AH.af,if_neg (by omega)]
 ·rw [e2];exact a4.same fun b hb=>by have:=a7 b hb;rw [AH.af,if_neg (by omega)]
 ·rw [e3];exact a5.same fun b hb=>by have:=a8 b hb;rw [AH.af,if_neg (by omega)]
theorem zA {H:AH} {q:Option Nat} {ps:List (List UInt8×aj)} {y:List UInt8×aj} {c:Nat} {fl:Fl} (hl:bQ H q ps.length (flat bz ps) 65) (hc:H.get c=some (.cells (bz y) 65 fl)) (hm:ps.length≤8192) :
  ∃H',bV Tryz.prog H 56 56 (sl q ps.length) (.slice (some (c,0)) 1 1)=some (sl (some H.n) (ps ++ [y]).length,H')∧H'.n=H.n+1∧bQ H' (some H.n) (ps ++ [y]).length (flat bz (ps ++ [y])) 65∧∀c,c<H.n→q ≠ some c→H'.get c=H.get c :=
 gl (nA:=32) (s:=6) (z:=.agg (.str [] :: z1)) (by kernel_rfl) (by kernel_rfl) (by kernel_rfl) (by kernel_rfl) rfl (by decide) cL Fu hl hc (by omega)
def St.laid (x:St) (t:List UInt8):St:={ x with so:=x.so ++ t,ps:=x.ps ++ [(t,x.now)] }
end Go.Proofs.YtlkdhhkncoekgaaGreatDoor
end
/- utf.Melts says whether two texts melt. -/
section
namespace Go.Proofs.YtlkdhhkncoekgaaGreatDoor
open Go.Am Go
def pJ (a s:List UInt8) (r:Bool) (W:List Nat) (H:AH):Prop :=
 H.get 3=some (.cells [.str a] 9 { whole:=true })∧H.get (3+1)=some (.cells [.bool r] 4 { whole:=true })∧H.get (3+2)=some (.cells [.str s] 9 { whole:=true })∧3+4<H.n ∧
 ∀c,c<3+3→c ∉ W
theorem pJ.alloc {a s:List UInt8} {r:Bool} {W:List Nat} {H:AH} (h:pJ a s r W H) (o:aY):pJ a s r (H.n :: W) (H.alloc o):=by
 obtain ⟨h1,h2,h3,h4,h5⟩:=h
 refine ⟨?_,?_,?_,?_,fun c hc hm=>?_⟩
 ·rw [AH.aa,if_neg (by omega)];exact h1
 ·rw [AH.aa,if_neg (by omega)];exact h2
 ·rw [AH.aa,if_neg (by omega)];exact h3
 ·show 3+4<H.n+1;omega
 ·rcases List.mem_cons.1 hm with rfl | hm
  ·omega
  ·exact h5 c hc hm
theorem pJ.set {a s:List UInt8} {r:Bool} {W:List Nat} {H:AH} (h:pJ a s r W H) {c:Nat} (hc:c ∈ W) (o:aY):pJ a s r W (H.set c o):=by
 obtain ⟨h1,h2,h3,h4,h5⟩:=h
 have n : ∀d,d<3+3→d ≠ c:=fun d hd e=>h5 d hd (e ▸ hc)
 refine ⟨?_,?_,?_,h4,h5⟩
 ·rw [AH.af,if_neg (n _ (by omega))];exact h1
 ·rw [AH.af,if_neg (n _ (by omega))];exact h2
 ·rw [AH.af,if_neg (n _ (by omega))];exact h3
theorem pJ.but {a s:List UInt8} {r:Bool} {W:List Nat} {H H' : AH} (h:pJ a s r W H) {b:Nat} (hb:3+3≤b) (k:ri b H H'):pJ a s r W H':=by
 obtain ⟨h1,h2,h3,h4,h5⟩:=h
 obtain ⟨k1,k2⟩:=k
 refine ⟨?_,?_,?_,by omega,h5⟩
 ·rw [k2 _ (by omega)];exact h1
 ·rw [k2 _ (by omega)];exact h2
 ·rw [k2 _ (by omega)];exact h3
end Go.Proofs.YtlkdhhkncoekgaaGreatDoor
end
/- Whether a form may be passed over; a tag of one letter. -/
section
namespace Go.Proofs.YtlkdhhkncoekgaaGreatDoor
open Go.Am Go
end Go.Proofs.YtlkdhhkncoekgaaGreatDoor
end
