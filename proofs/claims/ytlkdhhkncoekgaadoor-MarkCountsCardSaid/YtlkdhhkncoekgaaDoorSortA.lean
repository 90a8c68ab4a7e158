/- The sorting of spans: parts in one another's place, ones behind one another, one by one, halves merged. -/
import Derived.Test.YtlkdhhkncoekgaaDoorMadeA
import Derived.Test.YtlkdhhkncoekgaaDoorSortL
import Derived.Test.YtlkdhhkncoekgaaDoorSortVc
namespace Go.Proofs.YtlkdhhkncoekgaaDoor
open Go.Am Go
structure vm extends Ordr where
 g:Nat
 hg:g=111∨g=100
 cmp:ay→ay→Int
 pure : ∀x y:ay,Pure Tryd.prog g [.agg [.int .i64 x.f,.int .i64 x.t,.int .i64 x.k,.int .i64 x.v],.agg [.int .i64 y.f,.int .i64 y.t,.int .i64 y.k,.int .i64 y.v]] (.int .i64 (cmp x y))
 dec : ∀x y:ay,decide (cmp x y<0)=z9 x y
 fl:Fl
 own:fl.own=true
 fz:fl.fz=0
def fq (L:vm) (H:AH) (bk:Nat) (f:Nat→Nat) (n:Nat):Prop:=H.get bk=some (.cells (flat ay.cells ((List.range n).map fun i=>L.sp (f i))) 41 L.fl)
def upd (f:Nat→Nat) (i:Nat) (y:Nat) (x:Nat):Nat:=if x=i then y else f x
section
variable {L:vm}
theorem Kq {f:Nat→Nat} {n i:Nat} {y:Nat} (h:i<n):((List.range n).map fun j=>L.sp (f j)).set i (L.sp y)=(List.range n).map fun j=>L.sp (upd f i y j):=by
 apply List.ext_getElem?
 intro j
 rw [List.getElem?_set,List.length_map,List.length_range,List.getElem?_map,List.getElem?_map]
 by_cases e:i=j
 ·subst e
  rw [if_pos rfl,if_pos h,List.getElem?_range h]
  simp [upd]
 ·rw [if_neg e]
  by_cases hj:j<n
  ·rw [List.getElem?_range hj]
   simp only [Option.map_some,upd]
   rw [if_neg (fun h=>e h.symm)]
  ·rw [List.getElem?_eq_none (by rw [List.length_range];omega)];rfl
theorem fq.read {H:AH} {bk n i:Nat} {f:Nat→Nat} (h:fq L H bk f n) (hi:i<n):H.read bk (0+i*4) 4=some [.int .i64 (L.sp (f i)).f,.int .i64 (L.sp (f i)).t,.int .i64 (L.sp (f i)).k,.int .i64 (L.sp (f i)).v]:=by
 have:=dr ay.aG h (i:=i) (by rw [List.length_map,List.length_range];exact hi)
 rw [List.getElem_map,List.getElem_range] at this
 exact this
theorem fq.write {H:AH} {bk n i:Nat} {f:Nat→Nat} (h:fq L H bk f n) (hi:i<n) (y:Nat) : ∃H',H.write bk (0+i*4) [.int .i64 (L.sp y).f,.int .i64 (L.sp y).t,.int .i64 (L.sp y).k,.int .i64 (L.sp y).v]=some H'∧fq L H' bk (upd f i y) n∧H'.n=H.n∧∀c,c ≠ bk→H'.get c=H.get c:=by
 have:=jU (f:=ay.cells) ay.aG h L.own L.fz (i:=i) (k:=0) (vs:=(L.sp y).cells) (y:=L.sp y) (by rw [List.length_map,List.length_range];exact hi) (by simp [ay.cells]) (L.sp y).ef (by simp [ax,ay.cells])
 rw [Kq hi,Nat.add_zero] at this
 exact ⟨_,this,by show (AH.set _ _ _).get bk=_;rw [AH.af,if_pos rfl],rfl,fun c hc=>by rw [AH.af,if_neg hc]⟩
theorem rU (f:Nat→Nat) (i j:Nat):upd (upd f i (f j)) j (f i)=mm f i j:=by
 funext x
 unfold upd mm
 by_cases h1:x=j
 ·by_cases h2:x=i
  ·subst h1;subst h2;simp
  ·rw [if_pos h1,if_neg h2,if_pos h1]
 ·rw [if_neg h1]
  by_cases h2:x=i
  ·rw [if_pos h2,if_pos h2]
  ·rw [if_neg h2,if_neg h2,if_neg h1]
abbrev D (bk n:Nat):AV:=.slice (some (bk,0)) n n
abbrev Fc (L:vm):AV:=.func (.func L.g) [] []
def Left (L:vm) (H:AH) (bk n:Nat) (g:Nat→Nat) (v:AV) (H' : AH):Prop:=v=.tuple []∧fq L H' bk g n∧H.n≤H'.n∧∀c,c<H.n→c ≠ bk→H'.get c=H.get c
set_option maxRecDepth 100000 in
theorem wU {H:AH} {bk n a b m:Nat} {f:Nat→Nat} (h:fq L H bk f n) (hn:n≤1000000) (h1:a+m≤b) (h2:b+m≤n) :
  az Tryd.prog 119 [D bk n,.int .i64 a,.int .i64 b,.int .i64 m,Fc L] H (Left L H bk n (dw f a b m)):=by
 refine .inl ⟨aB (by kernel_rfl),ck (aT:=_) (dY:=_) au (Eq.mpr (GI (real Tryd.prog) (Iter Tryd.prog) bk n a b m L.g L.hg H _) ?_)⟩
 simp only [bh,cm,aL]
 refine ⟨fun x H' j=>∃i:Nat,x=i∧i≤m∧j=m - i∧fq L H' bk (dw f a b i) n∧H'.n=H.n∧∀c,c ≠ bk→H'.get c=H.get c,⟨0,m,rfl,0,rfl,Nat.zero_le _,rfl,by rw [sF];exact h,rfl,fun c _=>rfl⟩,?_⟩
 rintro _ H1 _ ⟨i,rfl,hi,rfl,hz,KP,ho⟩
 by_cases UC:i<m
 ·have d:decide ((i:Int)<(m:Int))=true:=by rw [decide_eq_true_iff];omega
  have w1:IntKind.i64.wrap ((b:Int)+(i:Int))=((b+i:Nat):Int):=by rw [wrap_i64 (by omega) (by omega)];omega
  have w2:IntKind.i64.wrap ((a:Int)+(i:Int))=((a+i:Nat):Int):=by rw [wrap_i64 (by omega) (by omega)];omega
  simp only [d,cond_true,w1,w2]
  obtain ⟨H2,g1,g2,g3,g4⟩:=hz.write (i:=a+i) (by omega) (dw f a b i (b+i))
  obtain ⟨H3,u1,u2,u3,u4⟩:=g2.write (i:=b+i) (by omega) (dw f a b i (a+i))
  rw [rU,sG (by omega)] at u2
  refine ⟨bk,0,⟨rfl,by omega,by omega⟩,_,_,_,_,hz.read (by omega),bk,0,⟨rfl,by omega,by omega⟩,_,_,_,_,hz.read (by omega),bk,0,⟨rfl,by omega,by omega⟩,rfl,H2,g1,bk,0,⟨rfl,by omega,by omega⟩,rfl,H3,u1,
   ((i+1:Nat):Int),m - (i+1),by omega,?_,i+1,rfl,by omega,rfl,u2,by omega,fun c hc=>by rw [u4 c hc,g4 c hc];exact ho c hc⟩
  rw [wrap_i64 (by omega) (by omega)];rfl
 ·have d:decide ((i:Int)<(m:Int))=false:=by rw [decide_eq_false_iff_not];omega
  simp only [d,cond_false]
  obtain rfl:i=m:=by omega
  exact ⟨rfl,hz,by omega,fun c _ hc=>ho c hc⟩
set_option maxRecDepth 100000 in
theorem G8 {H:AH} {bk n a m b:Nat} {f:Nat→Nat} (h:fq L H bk f n) (hn:n≤1000000) (h1:a<m) (h2:m<b) (h3:b≤n) :
  az Tryd.prog 118 [D bk n,.int .i64 a,.int .i64 m,.int .i64 b,Fc L] H (fun v H'=>Left L H bk n (cD f a m b) v H'∧bE n (cD f a m b) f):=by
 refine .inl ⟨aB (by kernel_rfl),ck (aT:=_) (dY:=_) au (Eq.mpr (EE (real Tryd.prog) (Iter Tryd.prog) bk n a m b L.g L.hg H _) ?_)⟩
 simp only [aJ,aL]
 have w0:IntKind.i64.wrap ((m:Int) - (a:Int))=((m - a:Nat):Int):=by rw [wrap_i64 (by omega) (by omega)];omega
 have w1:IntKind.i64.wrap ((b:Int) - (m:Int))=((b - m:Nat):Int):=by rw [wrap_i64 (by omega) (by omega)];omega
 rw [w0,w1]
 refine ⟨fun x H' k=>∃(i j:Nat) (g:Nat→Nat),x=((i:Int),(j:Int))∧0<i∧0<j∧a+i≤m∧m+j≤b∧k=i+j∧fq L H' bk g n∧cD g (m - i) m (m+j)=cD f a m b∧bE n g f∧H.n≤H'.n∧∀c,c<H.n→c ≠ bk→H'.get c=H.get c,
  ⟨(((m - a:Nat):Int),((b - m:Nat):Int)),(m - a)+(b - m),rfl,m - a,b - m,f,rfl,by omega,by omega,by omega,by omega,rfl,h,?_,bE.refl n f,Nat.le_refl _,fun c _ _=>rfl⟩,?_⟩
 ·rw [show m - (m - a)=a by omega,show m+(b - m)=b by omega]
 rintro _ H1 _ ⟨i,j,g,rfl,QS,Za,hi,hj,rfl,hz,hr,hp,KP,ho⟩
 have wm:IntKind.i64.wrap ((m:Int) - (i:Int))=((m - i:Nat):Int):=by rw [wrap_i64 (by omega) (by omega)];omega
 by_cases Ir:i=j
 ·have d:((i:Int) != (j:Int))=false:=by rw [Ir];simp
  simp only [d,cond_false,wm]
  refine (wU (m:=i) hz hn (by omega) (by omega)).mono ?_
  rintro v H2 ⟨rfl,g1,g2,g3⟩
  have e:dw g (m - i) m i=cD f a m b:=by rw [Nk (by omega),← hr,← Ir]
  rw [e] at g1
  refine ⟨⟨rfl,g1,by omega,fun c hc hb=>by rw [g3 c (by omega) hb];exact ho c hc hb⟩,?_⟩
  rw [← e]
  exact (bE.dw (by omega) (by omega)).trans hp
 ·have d:((i:Int) != (j:Int))=true:=by rw [bne_iff_ne];omega
  simp only [d,cond_true]
  by_cases UF:j<i
  ·have d2:decide ((i:Int) > (j:Int))=true:=by rw [decide_eq_true_iff];omega
   simp only [d2,cond_true,wm]
   refine (wU (m:=j) hz hn (by omega) (by omega)).mono ?_
   rintro v H2 ⟨rfl,g1,g2,g3⟩
   refine ⟨(((i - j:Nat):Int),(j:Int)),(i - j)+j,by omega,?_,i - j,j,dw g (m - i) m j,rfl,by omega,Za,by omega,hj,rfl,g1,?_,(bE.dw (by omega) (by omega)).trans hp,by omega,fun c hc hb=>by rw [g3 c (by omega) hb];exact ho c hc hb⟩
   ·have w:IntKind.i64.wrap ((i:Int) - (j:Int))=((i - j:Nat):Int):=by rw [wrap_i64 (by omega) (by omega)];omega
    rw [w]
   ·rw [G9 (by omega) UF];exact hr
  ·have d2:decide ((i:Int) > (j:Int))=false:=by rw [decide_eq_false_iff_not];omega
   have wj:IntKind.i64.wrap (IntKind.i64.wrap ((m:Int)+(j:Int)) - (i:Int))=((m+j - i:Nat):Int):=by rw [wrap_i64 (n:=(m:Int)+(j:Int)) (by omega) (by omega),wrap_i64 (by omega) (by omega)];omega
   simp only [d2,cond_false,wm,wj]
   refine (wU (m:=i) hz hn (by omega) (by omega)).mono ?_
   rintro v H2 ⟨rfl,g1,g2,g3⟩
   refine ⟨((i:Int),((j - i:Nat):Int)),i+(j - i),by omega,?_,i,j - i,dw g (m - i) (m+j - i) i,rfl,QS,by omega,hi,by omega,rfl,g1,?_,(bE.dw (by omega) (by omega)).trans hp,by omega,fun c hc hb=>by rw [g3 c (by omega) hb];exact ho c hc hb⟩
   ·have w:IntKind.i64.wrap ((j:Int) - (i:Int))=((j - i:Nat):Int):=by rw [wrap_i64 (by omega) (by omega)];omega
    rw [w]
   ·rw [EF (by omega) (by omega)];exact hr
end
end Go.Proofs.YtlkdhhkncoekgaaDoor
