/- A scanner of mark in any state; what melts; what is passed over. -/
import Derived.Test.YtlkdhhkncoekgaaDoorPlainA
import Derived.Test.YtlkdhhkncoekgaaDoorUtf
import Derived.Test.YtlkdhhkncoekgaaDoorSeamVc
/- A scanner of mark in any state: how the next sign is to look, and how signs are laid down. -/
section
namespace Go.Proofs.YtlkdhhkncoekgaaDoor
open Go.Am Go
def br (p:List UInt8×aj):List AV:=.str p.1 :: p.2.cells
theorem cF (p:List UInt8×aj):(br p).length=6:=rfl
theorem EP (p:List UInt8×aj):(br p).all AV.one=true:=by simp [br,aj.cells,AV.one]
def P5 (n:Int):List AV:=[.int .i64 n]
structure St where
 d:Int
 s:List UInt8
 i:Nat
 so:List UInt8
 ps:List (List UInt8×aj)
 op:Nat→Int
 eX:List Int
 look:aj
 fr:Bool
 name:List UInt8
 side:Int
def St.cells (x:St) (so out IS:AV):List AV :=
 [.int .i64 x.d,.str x.s,.int .i64 x.i,so,out,.int .i64 (x.op 0),.int .i64 (x.op 1),.int .i64 (x.op 2),.int .i64 (x.op 3),.int .i64 (x.op 4),IS,.bool x.look.b,.bool x.look.i,.bool x.look.u,.bool x.look.k,.int .i64 x.look.c,.bool x.fr,.str x.name,.int .i64 x.side]
def St.now (x:St):aj:=bif x.d == 1 || x.d == 2 then ⟨decide (x.op 1 > 0),decide (x.op 2 > 0),decide (x.op 3 > 0),decide (x.op 4 > 0),x.eX.getLast?.getD 0⟩ else x.look
def sA (H:AH) (qc:Option Nat) (cap:Nat) (eX:List Int):Prop :=
 match qc with
 | none=>cap=0∧eX=[]
 | some b=>∃rest,H.get b=some (.cells (flat P5 (eX ++ rest)) 3 { fT:=true })∧cap=(eX ++ rest).length
structure F7 (H:AH) (p:Nat) (x:St) (qs qo qc:Option Nat) (cap:Nat):Prop where
 cells:H.get p=some (.cells (x.cells (sl qs x.so.length) (sl qo x.ps.length) (.slice (qc.map fun b=>(b,0)) x.eX.length cap)) 60 { whole:=true })
 lt:p<H.n
 bytes:bI H qs x.so.length (av x.so) 5
 pieces:bI H qo x.ps.length (flat br x.ps) 79
 SY:sA H qc cap x.eX
 bs : ∀b,qs=some b→p<b∧b<H.n
 bo : ∀b,qo=some b→p<b∧b<H.n
 bc : ∀b,qc=some b→p<b∧b<H.n
 ap : ∀b,qs=some b→qo ≠ some b∧qc ≠ some b
 ao : ∀b,qo=some b→qc ≠ some b
 Jx:x.eX.length≤5000000
theorem sA.same {H H' : AH} {qc:Option Nat} {cap:Nat} {eX:List Int} (h:sA H qc cap eX) (k : ∀b,qc=some b→H'.get b=H.get b):sA H' qc cap eX:=by
 cases qc with
 | none=>exact h
 | some b=>obtain ⟨rest,h1,h2⟩:=h;exact ⟨rest,(k b rfl).trans h1,h2⟩
theorem F7.gM {H H' : AH} {p:Nat} {x:St} {qs qo qc:Option Nat} {cap:Nat} (h:F7 H p x qs qo qc cap) (hn:H.n≤H'.n) (k : ∀c,p≤c→c<H.n→H'.get c=H.get c):F7 H' p x qs qo qc cap:=by
 obtain ⟨a1,a2,a3,a4,a5,a6,a7,a8,a9,Ja,I9⟩:=h
 refine ⟨by rw [k p (Nat.le_refl p) a2];exact a1,by omega,a3.same fun b hb=>?_,a4.same fun b hb=>?_,a5.same fun b hb=>?_,fun b hb=>?_,fun b hb=>?_,fun b hb=>?_,a9,Ja,I9⟩
 ·have:=a6 b hb;exact k b (by omega) this.2
 ·have:=a7 b hb;exact k b (by omega) this.2
 ·have:=a8 b hb;exact k b (by omega) this.2
 ·have:=a6 b hb;omega
 ·have:=a7 b hb;omega
 ·have:=a8 b hb;omega
theorem F7.put {H:AH} {p:Nat} {x y:St} {qs qo qc:Option Nat} {cap:Nat} (h:F7 H p x qs qo qc cap) (e1:y.so=x.so) (e2:y.ps=x.ps) (e3:y.eX=x.eX) :
  F7 (H.set p (.cells (y.cells (sl qs x.so.length) (sl qo x.ps.length) (.slice (qc.map fun b=>(b,0)) x.eX.length cap)) 60 { whole:=true })) p y qs qo qc cap:=by
 obtain ⟨a1,a2,a3,a4,a5,a6,a7,a8,a9,Ja,I9⟩:=h
 refine ⟨by rw [AH.af,if_pos rfl,e1,e2,e3],a2,?_,?_,?_,a6,a7,a8,a9,Ja,by rw [e3];exact I9⟩
 ·rw [e1];exact a3.same fun b hb=>by have:=a6 b hb;rw [AH.af,if_neg (by omega)]
 ·rw [e2];exact a4.same fun b hb=>by have:=a7 b hb;rw [AH.af,if_neg (by omega)]
 ·rw [e3];exact a5.same fun b hb=>by have:=a8 b hb;rw [AH.af,if_neg (by omega)]
theorem yJ {H:AH} {q:Option Nat} {ps:List (List UInt8×aj)} {y:List UInt8×aj} {c:Nat} {fl:Fl} (hl:bI H q ps.length (flat br ps) 79) (hc:H.get c=some (.cells (br y) 79 fl)) (hm:ps.length≤8192) :
  ∃H',bZ Tryd.prog H 56 56 (sl q ps.length) (.slice (some (c,0)) 1 1)=some (sl (some H.n) (ps ++ [y]).length,H')∧H'.n=H.n+1∧bI H' (some H.n) (ps ++ [y]).length (flat br (ps ++ [y])) 79∧∀c,c<H.n→q ≠ some c→H'.get c=H.get c :=
 eZ (mT:=32) (s:=6) (z:=.agg (.str [] :: z1)) (by kernel_rfl) (by kernel_rfl) (by kernel_rfl) (by kernel_rfl) rfl (by decide) cF EP hl hc (by omega)
def St.laid (x:St) (t:List UInt8):St:={ x with so:=x.so ++ t,ps:=x.ps ++ [(t,x.now)] }
end Go.Proofs.YtlkdhhkncoekgaaDoor
end
/- utf.Melts says whether two texts melt. -/
section
namespace Go.Proofs.YtlkdhhkncoekgaaDoor
open Go.Am Go
def oQ (a s:List UInt8) (r:Bool) (W:List Nat) (H:AH):Prop :=
 H.get 3=some (.cells [.str a] 9 { whole:=true })∧H.get (3+1)=some (.cells [.bool r] 4 { whole:=true })∧H.get (3+2)=some (.cells [.str s] 9 { whole:=true })∧3+4<H.n ∧
 ∀c,c<3+3→c ∉ W
theorem oQ.alloc {a s:List UInt8} {r:Bool} {W:List Nat} {H:AH} (h:oQ a s r W H) (o:aS):oQ a s r (H.n :: W) (H.alloc o):=by
 obtain ⟨h1,h2,h3,h4,h5⟩:=h
 refine ⟨?_,?_,?_,?_,fun c hc hm=>?_⟩
 ·rw [AH.aa,if_neg (by omega)];exact h1
 ·rw [AH.aa,if_neg (by omega)];exact h2
 ·rw [AH.aa,if_neg (by omega)];exact h3
 ·show 3+4<H.n+1;omega
 ·rcases List.mem_cons.1 hm with rfl | hm
  ·omega
  ·exact h5 c hc hm
theorem oQ.set {a s:List UInt8} {r:Bool} {W:List Nat} {H:AH} (h:oQ a s r W H) {c:Nat} (hc:c ∈ W) (o:aS):oQ a s r W (H.set c o):=by
 obtain ⟨h1,h2,h3,h4,h5⟩:=h
 have n : ∀d,d<3+3→d ≠ c:=fun d hd e=>h5 d hd (e ▸ hc)
 refine ⟨?_,?_,?_,h4,h5⟩
 ·rw [AH.af,if_neg (n _ (by omega))];exact h1
 ·rw [AH.af,if_neg (n _ (by omega))];exact h2
 ·rw [AH.af,if_neg (n _ (by omega))];exact h3
theorem oQ.but {a s:List UInt8} {r:Bool} {W:List Nat} {H H' : AH} (h:oQ a s r W H) {b:Nat} (hb:3+3≤b) (k:qv b H H'):oQ a s r W H':=by
 obtain ⟨h1,h2,h3,h4,h5⟩:=h
 obtain ⟨k1,k2⟩:=k
 refine ⟨?_,?_,?_,by omega,h5⟩
 ·rw [k2 _ (by omega)];exact h1
 ·rw [k2 _ (by omega)];exact h2
 ·rw [k2 _ (by omega)];exact h3
end Go.Proofs.YtlkdhhkncoekgaaDoor
end
/- Whether a form may be passed over; a tag of one letter. -/
section
namespace Go.Proofs.YtlkdhhkncoekgaaDoor
open Go.Am Go
end Go.Proofs.YtlkdhhkncoekgaaDoor
end
