/- What is kept, compared with the text: nothing is told just where both are alike; which signs are others; no line is empty. -/
import Derived.Test.YtlkdhhkncoekgaaDoorKeepL
namespace Go.Am
open Go.Proofs.YtlkdhhkncoekgaaDoor
theorem JV {s:List UInt8} {m:Nat} (h:place s m<s.length):ah (uK s m) 0=ah s (place s m):=by
 obtain ⟨f1,f2,f3,f4,f5,f6,f7⟩:=vq h
 have h1:=eN (a:=uK s m) (b:=s.drop (place s (m+1))) (p:=0) (by omega) (by omega)
 rw [h1,← f1]
 exact eO fun j _=>by rw [List.getElem?_drop,Nat.zero_add]
def lQ (d:Int) (s:List UInt8) (m:Nat):Int:=((ah (bO d s m) 0).1:Int)
theorem tF {d:Int} {s:List UInt8} {m:Nat} (h:place s m<s.length) (hk:jF d (gq s m)=none):bO d s m=uK s m∧lQ d s m=gq s m:=by
 have e:bO d s m=uK s m:=by unfold bO;rw [hk];rfl
 refine ⟨e,?_⟩
 unfold lQ gq
 rw [e,JV h]
theorem tE {d:Int} {s:List UInt8} {m:Nat} {u:List UInt8} (hk:jF d (gq s m)=some u):bO d s m=u∧lQ d s m ≠ gq s m∧(lQ d s m=32∨(65280≤lQ d s m∧lQ d s m≤65519)):=by
 have e:bO d s m=u:=by unfold bO;rw [hk];rfl
 have:=(Dw hk).is
 unfold lQ
 rw [e]
 exact ⟨rfl,this.1,this.2⟩
/-! Signs that are others -/
def Kh (d:Int) (s:List UInt8) (m:Nat):Bool:=(jF d (gq s m)).isSome
theorem xZ (d:Int) (bl:Bool) (s:List UInt8) (L:Nat→aj) : ∀m,(eE d bl s L m).sg=cnt (Kh d s) m
 | 0=>rfl
 | m+1=>by
  have:=xZ d bl s L m
  have e:(if (jF d (gq s m)).isSome then 1 else 0)=(bif Kh d s m then 1 else 0):=by unfold Kh;cases (jF d (gq s m)).isSome <;> rfl
  unfold eE ng
  rw [gG,← this]
  cases (bO d s m == [10] && !bl && ((eE d bl s L m).l.isEmpty || cj (eE d bl s L m).l)) <;> simp only [cond_true,cond_false,e]
theorem Ky (bl:Bool) (x:GA):(eL bl x).sg=x.sg:=by
 unfold eL
 cases (decide (0<x.l.length) && !bl && cj x.l) <;> rfl
def rS (d:Int) (s:List UInt8) (L:Nat→aj) (m:Nat):cN:=(List.range m).map fun j=>(bO d s j,L j)
theorem wL (d:Int) (s:List UInt8) (L:Nat→aj) (m:Nat):rS d s L (m+1)=rS d s L m ++ [(bO d s m,L m)]:=by unfold rS;rw [List.range_succ,List.map_append];rfl
theorem rm (d:Int) (s:List UInt8) (L:Nat→aj) (m:Nat):(rS d s L m).length=m:=by unfold rS;rw [List.length_map,List.length_range]
theorem DZ {d:Int} {s:List UInt8} {L:Nat→aj} {m j:Nat} (h:j<(rS d s L m).length):(rS d s L m)[j]=(bO d s j,L j):=by simp only [rS,List.getElem_map,List.getElem_range]
theorem ya {d:Int} {bl:Bool} {s:List UInt8} {L:Nat→aj} : ∀ {m:Nat},(eE d bl s L m).en=0→(eE d bl s L m).l=rS d s L m
 | 0,_=>rfl
 | m+1,h=>by
  rw [wL]
  unfold eE ng at h ⊢
  cases hc:(bO d s m == [10] && !bl && ((eE d bl s L m).l.isEmpty || cj (eE d bl s L m).l)) with
  | true=>rw [hc] at h;simp only [cond_true] at h;omega
  | false =>
   rw [hc] at h
   simp only [cond_false] at h ⊢
   rw [ya (m:=m) h]
theorem oU (d:Int) (s:List UInt8) (L:Nat→aj) : ∀m,(eE d true s L m).en=0
 | 0=>rfl
 | m+1=>by
  unfold eE ng
  have:(bO d s m == [10] && !true && ((eE d true s L m).l.isEmpty || cj (eE d true s L m).l))=false:=by simp
  rw [this];exact oU d s L m
theorem vT (x:GA):eL true x=x:=by
 unfold eL
 have:(decide (0<x.l.length) && !true && cj x.l)=false:=by simp
 rw [this];rfl
theorem th (d:Int) (l:cN):aF (dK d l).1=aF l:=by unfold aF;rw [(jA d l).fst]
theorem Fa {d:Int} {s:List UInt8} {L:Nat→aj} {n j:Nat} (hp:Pos (rS d s L n)) (hj:j<n):gq (aF (rS d s L n)) j=lQ d s j:=by
 have h:=(hp.dec (j:=j) (by rw [rm];exact hj)).1
 unfold gq lQ
 rw [h,DZ]
/-! Lines -/
def NB (l:cN):Prop:=∀j (h:j<l.length),l[j].1=[10]→∃h0:0<j,l[j - 1].1 ≠ [10]
theorem NB.snoc {l:cN} {p:List UInt8×aj} (h:NB l) (hp:p.1=[10]→l ≠ []∧cj l=false):NB (l ++ [p]):=by
 intro j hj he
 rw [List.length_append,List.length_singleton] at hj
 rcases Nat.lt_or_ge j l.length with g | g
 ·rw [List.getElem_append_left g] at he
  obtain ⟨h0,h1⟩:=h j g he
  refine ⟨h0,?_⟩
  rw [List.getElem_append_left (by omega)];exact h1
 ·have:j=l.length:=by omega
  subst this
  rw [List.getElem_append_right (Nat.le_refl _)] at he
  simp only [Nat.sub_self,List.getElem_cons_zero] at he
  obtain ⟨h1,h2⟩:=hp he
  have h0:0<l.length:=List.length_pos_iff.2 h1
  refine ⟨h0,?_⟩
  rw [List.getElem_append_left (by omega)]
  unfold cj at h2
  rw [List.getLast?_eq_getElem?,List.getElem?_eq_getElem (by omega)] at h2
  simpa using h2
theorem NB.init {l m:cN} (h:NB (l ++ m)):NB l:=by
 intro j hj he
 obtain ⟨h0,h1⟩:=h j (by rw [List.length_append];omega) (by rw [List.getElem_append_left hj];exact he)
 refine ⟨h0,?_⟩
 rw [List.getElem_append_left (by omega)] at h1;exact h1
structure Runes (bl:Bool) (S:List UInt8) (N:Nat):Prop where
 ep:aD S N
 low : ∀j,j<N→gq S j=10∨32≤gq S j
 line:bl=false→∀j,j<N→gq S j=10→0<j∧gq S (j - 1) ≠ 10
 last:bl=false→0<N→gq S (N - 1) ≠ 10
end Go.Am
