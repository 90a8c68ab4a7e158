/- What is kept with its line ends: as many signs as before; which ones are others. -/
import Derived.Test.YtlkdhhkncoekgaaDoorKeepP
namespace Go.Am
open Go.Proofs.YtlkdhhkncoekgaaDoor
theorem DM (d:Int) (bl:Bool) (s:List UInt8) (L:Nat→aj) : ∀m,(aF (eE d bl s L m).l).length≤(aF (rS d s L m)).length
 | 0=>Nat.le_refl _
 | m+1=>by
  have ih:=DM d bl s L m
  rw [wL,c8]
  unfold eE ng
  cases (bO d s m == [10] && !bl && ((eE d bl s L m).l.isEmpty || cj (eE d bl s L m).l)) with
  | true=>simp only [cond_true,List.length_append];omega
  | false=>simp only [cond_false,c8,List.length_append];omega
theorem FA (l:cN):(aF l.dropLast).length≤(aF l).length:=by
 rcases List.eq_nil_or_concat l with rfl | ⟨l0,p,rfl⟩
 ·exact Nat.le_refl _
 ·rw [List.concat_eq_append,List.dropLast_concat,c8,List.length_append];omega
theorem Fb (bl:Bool) (x:GA):(aF (eL bl x).l).length≤(aF x.l).length:=by
 unfold eL
 cases (decide (0<x.l.length) && !bl && cj x.l) with
 | true=>exact FA _
 | false=>exact Nat.le_refl _
structure LP (d:Int) (s:List UInt8) (L:Nat→aj) (n:Nat) (S:List UInt8):Prop where
 ep:aD S n
 sg:(eE d true s L n).sg=cnt (fun i=>gq s i != gq S i) n
 F9 : ∀i,i<n→gq s i ≠ gq S i→gq S i=32∨(65280≤gq S i∧gq S i≤65519)
 sn:(dK d (eE d true s L n).l).2=cnt (fun i=>!cW (L i) (fZ (dK d (eE d true s L n).l).1 i)) n
 len:(eE d true s L n).l.length=n
theorem Lt {d:Int} {s:List UInt8} {L:Nat→aj} {n:Nat} (hn:aD s n):LP d s L n (aF (eE d true s L n).l):=by
 have hK:=ya (d:=d) (s:=s) (L:=L) (oU d s L n)
 have hI:=KI.all (d:=d) (bl:=true) (L:=L) hn (Nat.le_refl n)
 have hlen:(eE d true s L n).l.length=n:=by rw [hK,rm]
 have hr : ∀i,i<n→gq (aF (eE d true s L n).l) i=lQ d s i:=fun i hi=>by
  rw [hK];exact Fa (by rw [← hK];exact hI.pos) hi
 refine ⟨by have:=hI.ep;rwa [hlen] at this,?_,fun i hi cU=>?_,?_,hlen⟩
 ·rw [xZ]
  refine g9 fun i hi=>?_
  rw [hr i hi]
  unfold Kh
  cases hk:jF d (gq s i) with
  | none=>rw [(tF (hn.2 i hi) hk).2];simp
  | some u =>
   have:=(tE hk).2.1
   have h2:(gq s i != lQ d s i)=true:=by rw [bne_iff_ne];exact fun e=>this e.symm
   rw [h2];rfl
 ·rw [hr i hi] at cU ⊢
  cases hk:jF d (gq s i) with
  | none=>exact absurd (tF (hn.2 i hi) hk).2.symm cU
  | some u=>exact (tE hk).2.2
 ·have h1:=(jA d (eE d true s L n).l).num
  rw [h1,hlen]
  refine g9 fun i hi=>?_
  have:fZ (eE d true s L n).l i=L i:=by
   rw [mE (by omega)]
   simp only [hK,DZ]
  rw [this]
theorem yF {d:Int} {s:List UInt8} {L:Nat→aj} {n:Nat} (hn:aD s n):(eL false (eE d false s L n)).sg=(eE d true s L n).sg∧(eL false (eE d false s L n)).en≤n∧(aF (eL false (eE d false s L n)).l).length≤(aF (eE d true s L n).l).length:=by
 refine ⟨by rw [Ky,xZ,xZ],?_,?_⟩
 ·have:=(tG (d:=d) (bl:=false) (L:=L) hn).count;omega
 ·refine Nat.le_trans (Fb _ _) ?_
  rw [ya (oU d s L n)]
  exact DM d false s L n
end Go.Am
