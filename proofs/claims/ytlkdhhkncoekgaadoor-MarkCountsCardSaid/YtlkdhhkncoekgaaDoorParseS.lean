/- mark.Parse, turn by turn; tags of one letter. -/
import Derived.Test.YtlkdhhkncoekgaaDoorMadeA
import Derived.Test.YtlkdhhkncoekgaaDoorScan
import Derived.Test.YtlkdhhkncoekgaaDoorParseVc
/- A row of one span at most is in order as it is; what a tag of one letter does to a scanner. -/
section
namespace Go.Proofs.YtlkdhhkncoekgaaDoor
open Go.Am Go
end Go.Proofs.YtlkdhhkncoekgaaDoor
end
/- What a tag of one letter does to a scanner: it is passed over, and a kind is open once more, unless what stands about it melts. -/
section
namespace Go.Proofs.YtlkdhhkncoekgaaDoor
open Go.Am Go
def St.fT (x:St) (k:Nat) (m:Int):St:={ x with op:=fun j=>if j=k then x.op j+m else x.op j }
def letter (c:UInt8) (k:Nat):Prop:=(c=98∧k=1)∨(c=105∧k=2)∨(c=117∧k=3)
theorem F7.write {H:AH} {p:Nat} {x y:St} {qs qo qc:Option Nat} {cap:Nat} (h:F7 H p x qs qo qc cap) (e1:y.so=x.so) (e2:y.ps=x.ps) (e3:y.eX=x.eX) {o:Nat} {vs:List AV} (ho:o+vs.length≤19) (h1:vs.all AV.one=true)
  (hw:ax (x.cells (sl qs x.so.length) (sl qo x.ps.length) (.slice (qc.map fun b=>(b,0)) x.eX.length cap)) o vs=y.cells (sl qs x.so.length) (sl qo x.ps.length) (.slice (qc.map fun b=>(b,0)) x.eX.length cap)) :
  ∃H',H.write p o vs=some H'∧F7 H' p y qs qo qc cap∧H'.n=H.n∧∀c,c ≠ p→H'.get c=H.get c:=by
 refine ⟨H.set p (.cells (y.cells (sl qs x.so.length) (sl qo x.ps.length) (.slice (qc.map fun b=>(b,0)) x.eX.length cap)) 60 { whole:=true }),?_,h.put e1 e2 e3,rfl,fun c hc=>by rw [AH.af,if_neg hc]⟩
 unfold AH.write
 rw [h.cells]
 simp only
 rw [if_pos ⟨trivial,Nat.zero_le _,by simpa [St.cells] using ho,h1⟩,hw]
end Go.Proofs.YtlkdhhkncoekgaaDoor
end
/- mark.Parse, told by what each of its turns does to the scanner: what holds at the beginning and is kept by each turn holds at the end. -/
section
namespace Go.Proofs.YtlkdhhkncoekgaaDoor
open Go.Am Go
def St.start (d:Int) (s:List UInt8):St:=⟨d,s,0,[],[],fun _=>0,[],aH,true,[],0⟩
def St.skip (x:St) (n:Nat):St:={ x with i:=x.i+n }
def St.Bb (x:St):List UInt8:=(x.s.drop x.i).take (ah x.s x.i).2
def St.signed (x:St):St:={ x.laid x.Bb with i:=x.i+x.Bb.length,fr:=false }
def Form (f:FuncId) (x:St) (n:Nat) (y:St):Prop:=∀(H:AH) (p:Nat) (qs qo qc:Option Nat) (cap:Nat),F7 H p x qs qo qc cap →
 az Tryd.prog f [.ptr (some (p,0)),.str (x.s.drop x.i)] H fun v H'=>v=.int .i64 n∧(∃VT RD,F7 H' p y qs qo VT RD)∧H.n≤H'.n∧∀c,c<p→H'.get c=H.get c
def RQ (R:St→Prop) (x:St) (p:Nat) (H:AH) (v:AV) (H' : AH):Prop:=∃(n:Nat) (y:St),v=.int .i64 n∧(∃qs qo qc cap,F7 H' p y qs qo qc cap)∧H.n≤H'.n∧(∀c,c<p→H'.get c=H.get c) ∧
 n≤4194304∧y.i=x.i∧y.d=x.d∧y.s=x.s∧bif decide (0<n) then R (y.skip n) else y=x∧R x.signed
def RS (R:St→Prop) (f:FuncId) (x:St):Prop:=∀(H:AH) (p:Nat) (qs qo qc:Option Nat) (cap:Nat),F7 H p x qs qo qc cap→az Tryd.prog f [.ptr (some (p,0)),.str (x.s.drop x.i)] H (RQ R x p H)
theorem RS.of {R:St→Prop} {f:FuncId} {x:St} (h : ∃(n:Nat) (y:St),Form f x n y∧n≤4194304∧y.i=x.i∧y.d=x.d∧y.s=x.s∧bif decide (0<n) then R (y.skip n) else y=x∧R x.signed):RS R f x:=by
 obtain ⟨n,y,hF,hn,e1,e2,e3,hc⟩:=h
 intro H p qs qo qc cap hA
 refine (hF H p qs qo qc cap hA).mono ?_
 rintro v H' ⟨rfl,⟨VT,RD,h⟩,h1,h2⟩
 exact ⟨n,y,rfl,⟨_,_,_,_,h⟩,h1,h2,hn,e1,e2,e3,hc⟩
end Go.Proofs.YtlkdhhkncoekgaaDoor
end
