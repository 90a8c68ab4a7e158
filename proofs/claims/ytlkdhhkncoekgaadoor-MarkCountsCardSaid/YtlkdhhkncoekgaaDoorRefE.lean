/- The spans of a normal form, by the reference's functions. -/
import Derived.Test.YtlkdhhkncoekgaaDoorRefD
section
namespace Go.Proofs.YtlkdhhkncoekgaaDoor
open Go.Am Go
structure NZ (H H' : AH) (n:Nat) (cut:Nat→Bool) (qo:Option Nat) (out:List ay) (qm:Option Nat) (Ca:List ay):Prop where
 old : ∀c,c<H.n→H'.get c=H.get c
 cut:H'.get H.n=some (.cells (eY cut n) 4 {})
 lt:H.n<H'.n
 out:bI H' qo out.length (flat ay.cells out) 41
 bo : ∀c,qo=some c→H.n<c∧c<H'.n
 Ca:bI H' qm Ca.length (flat ay.cells Ca) 41
 bm : ∀c,qm=some c→H.n<c∧c<H'.n∧qo ≠ some c
theorem NZ.gM {H H1 H2:AH} {n:Nat} {cut:Nat→Bool} {qo:Option Nat} {out:List ay} {qm:Option Nat} {Ca:List ay} (h:NZ H H1 n cut qo out qm Ca) (hn:H1.n≤H2.n) (k : ∀c,c<H1.n→H2.get c=H1.get c):NZ H H2 n cut qo out qm Ca:=by
 have:=h.lt
 exact ⟨fun c hc=>by rw [k c (by omega)];exact h.old c hc,by rw [k _ h.lt];exact h.cut,by omega,h.out.same fun b hb=>k b (h.bo b hb).2,fun c hc=>by have:=h.bo c hc;omega,h.Ca.same fun b hb=>k b (h.bm b hb).2.1,fun c hc=>by have:=h.bm c hc;exact ⟨this.1,by omega,this.2.2⟩⟩
end Go.Proofs.YtlkdhhkncoekgaaDoor
end
