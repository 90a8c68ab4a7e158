/- How signs look, by style.looks: the spans put in order, the outermost first, each laid over. -/
import Derived.Test.YtlkdhhkncoekgaaDoorKeepA
namespace Go.Proofs.YtlkdhhkncoekgaaDoor
open Go.Am Go
def R8 (a b:Int):Int:=if a=0 then b else a
set_option maxRecDepth 100000 in
theorem IV {H:AH} {bk:Nat} {a b:Int} {fl:Fl} (h:H.get bk=some (.cells [.int .i64 a,.int .i64 b] 3 fl)):az Tryd.prog 101 [.slice (some (bk,0)) 2 2] H fun v H'=>v=.int .i64 (R8 a b)∧H'=H:=by
 refine .inl ⟨aB (by kernel_rfl),ck (aT:=_) (dY:=_) au (Eq.mpr (FM (real Tryd.prog) (Iter Tryd.prog) bk H _) ?_)⟩
 simp only [aY,aL]
 have r : ∀i,H.ak bk i=([.int .i64 a,.int .i64 b]:List AV)[i]?:=fun i=>by unfold AH.ak;rw [h]
 refine ⟨fun x H' j=>H=H'∧((x=0∧j=3)∨(x=1∧j=2∧a=0)∨(x=2∧j=1∧a=0∧b=0)),⟨0,3,rfl,rfl,.inl ⟨rfl,rfl⟩⟩,?_⟩
 have w : ∀k:Int,0≤k→k<4→IntKind.i64.wrap (k+1)=k+1:=fun k h1 h2=>wrap_i64 (by omega) (by omega)
 rintro x _ j ⟨rfl,h⟩
 unfold R8
 rcases h with ⟨rfl,rfl⟩ | ⟨rfl,rfl,ha⟩ | ⟨rfl,rfl,ha,hb⟩
 ·have d:decide ((0:Int)<2)=true:=by decide
  simp only [d,cond_true]
  refine ⟨bk,0,⟨rfl,by omega,by omega⟩,a,by rw [r];rfl,?_⟩
  cases hz:(a != 0) with
  | true =>
   simp only [cond_true]
   have:a ≠ 0:=by simpa using hz
   rw [if_neg this];exact ⟨by trivial,by trivial⟩
  | false =>
   simp only [cond_false]
   have ha:a=0:=by simpa using hz
   exact ⟨1,2,by omega,by rw [w 0 (by omega) (by omega)];rfl,trivial,.inr (.inl ⟨rfl,rfl,ha⟩)⟩
 ·have d:decide ((1:Int)<2)=true:=by decide
  simp only [d,cond_true]
  refine ⟨bk,0,⟨rfl,by omega,by omega⟩,b,by rw [r];rfl,?_⟩
  rw [if_pos ha]
  cases hz:(b != 0) with
  | true=>simp only [cond_true];exact ⟨by trivial,by trivial⟩
  | false =>
   simp only [cond_false]
   have hb:b=0:=by simpa using hz
   exact ⟨2,1,by omega,by rw [w 1 (by omega) (by omega)];rfl,trivial,.inr (.inr ⟨rfl,rfl,ha,hb⟩)⟩
 ·have d:decide ((2:Int)<2)=false:=by decide
  simp only [d,cond_false]
  rw [if_pos ha,hb];exact ⟨by trivial,by trivial⟩
def Ly (x y:ay):Int:=R8 (pE x.f y.f) (pE y.t x.t)
theorem Lx (x y:ay):decide (Ly x y<0)=Nx x y:=by
 rw [Bool.eq_iff_iff,decide_eq_true_iff,se]
 unfold Ly R8 pE
 by_cases h1:x.f<y.f
 ·rw [if_pos h1];simp;omega
 ·rw [if_neg h1]
  by_cases h2:x.f > y.f
  ·rw [if_pos h2];simp;omega
  ·rw [if_neg h2]
   by_cases h3:y.t<x.t
   ·rw [if_pos h3];simp;omega
   ·rw [if_neg h3]
    by_cases h4:y.t > x.t
    ·rw [if_pos h4];simp;omega
    ·rw [if_neg h4];simp;omega
theorem xe (x y:ay):Pure Tryd.prog 100 [.agg [.int .i64 x.f,.int .i64 x.t,.int .i64 x.k,.int .i64 x.v],.agg [.int .i64 y.f,.int .i64 y.t,.int .i64 y.k,.int .i64 y.v]] (.int .i64 (Ly x y)):=by
 refine Pure.fU au [] (by kernel_rfl) rfl rfl ?_
 rw [BE]
 simp only [bL,bq,aY,aJ,AH.aC,nG]
 obtain ⟨A,hA⟩ : ∃A,A=((aR Tryd.prog).alloc (.cells [.int .i64 x.f,.int .i64 x.t,.int .i64 x.k,.int .i64 x.v] 41 { whole:=true })).alloc (.cells [.int .i64 y.f,.int .i64 y.t,.int .i64 y.k,.int .i64 y.v] 41 { whole:=true }):=⟨_,rfl⟩
 rw [← hA]
 have g0:A.get 3=some (.cells [.int .i64 x.f,.int .i64 x.t,.int .i64 x.k,.int .i64 x.v] 41 { whole:=true }):=by rw [hA];simp [AH.aa,nG]
 have g1:A.get (3+1)=some (.cells [.int .i64 y.f,.int .i64 y.t,.int .i64 y.k,.int .i64 y.v] 41 { whole:=true }):=by rw [hA];simp [AH.aa,nG]
 have r0 : ∀i,A.ak 3 i=([.int .i64 x.f,.int .i64 x.t,.int .i64 x.k,.int .i64 x.v]:List AV)[i]?:=fun i=>by unfold AH.ak;rw [g0]
 have r1 : ∀i,A.ak (3+1) i=([.int .i64 y.f,.int .i64 y.t,.int .i64 y.k,.int .i64 y.v]:List AV)[i]?:=fun i=>by unfold AH.ak;rw [g1]
 refine ⟨trivial,trivial,x.f,by rw [r0];rfl,y.f,by rw [r1];rfl,y.t,by rw [r1];rfl,x.t,by rw [r0];rfl,?_⟩
 refine (fI _ _).dS ⟨_,rfl,⟨_,by rw [r0];rfl,rfl⟩,⟨_,by rw [r1];rfl,rfl⟩,?_⟩
 refine (fI _ _).dS ⟨_,rfl,by decide,?_⟩
 refine (IV (fl:={ whole:=true }) (by rw [AH.aa,if_pos rfl])).mono ?_
 rintro v H' ⟨rfl,_⟩
 exact ⟨_,rfl,rfl⟩
def Tx (so:List ay) (fl:Fl) (h1:fl.own=true) (h2:fl.fz=0):vm where
 toOrdr:=Kg so
 g:=100
 hg:=.inr rfl
 cmp:=Ly
 pure:=xe
 dec:=Lx
 fl:=fl
 own:=h1
 fz:=h2
def C1 (H H' : AH) (q:Option Nat) (so:List ay):Prop :=
 match q with
 | none=>so=[]
 | some b=>∃fl:Fl,fl.own=true∧fl.fz=0∧H'.get b=some (.cells (flat ay.cells so) 41 fl)∧H.n≤b∧b<H'.n
theorem C1.text {H H' : AH} {q:Option Nat} {so:List ay} (h:C1 H H' q so):fL H' q so:=by
 cases q with
 | none=>exact ⟨h,fun b hb=>by cases hb⟩
 | some b =>
  obtain ⟨fl,_,_,h3,_,h5⟩:=h
  exact ⟨⟨fl,h3⟩,fun c hc=>by cases hc;exact h5⟩
theorem FO {H:AH} {b:Nat} {so more:List ay} {e:TypeId} {fl:Fl} (h:H.get b=some (.cells (flat ay.cells (so ++ more)) e fl)) (hb:b<H.n) (hl:so.length≤100000) (cp:Nat) :
  ∃(c:Nat) (H' : AH) (g:Fl),bZ Tryd.prog (H.alloc (.cells [] 41 { whole:=true })) 24 24 (.slice (some (H.n,0)) 0 0) (.slice (some (b,0)) so.length cp)=some (.slice (some (c,0)) so.length so.length,H')∧g.own=true∧g.fz=0 ∧
   H'.get c=some (.cells (flat ay.cells so) 41 g)∧H.n≤c∧c<H'.n∧H.n≤H'.n∧∀c,c<H.n→H'.get c=H.get c:=by
 have t1:Tryd.prog.underlying 24=some (.slice 41):=by kernel_rfl
 have t2:bX Tryd.prog 41=some 4:=by kernel_rfl
 have t3:vj Tryd.prog 41=some 32:=by kernel_rfl
 have t4:zeroOf Tryd.prog 41=some (.agg [.int .i64 0,.int .i64 0,.int .i64 0,.int .i64 0]):=by kernel_rfl
 obtain ⟨A,hA⟩ : ∃A,A=H.alloc (.cells [] 41 { whole:=true }):=⟨_,rfl⟩
 rw [← hA]
 have ag:A.get H.n=some (.cells [] 41 { whole:=true }):=by rw [hA,AH.aa,if_pos rfl]
 have ao : ∀c,c<H.n→A.get c=H.get c:=fun c hc=>by rw [hA,AH.aa,if_neg (by omega)]
 have an:A.n=H.n+1:=by rw [hA];rfl
 have Fm:y9 A 4 (.slice (some (b,0)) so.length cp)=some (so.length,flat ay.cells so):=by
  have:=cX ay.aG (l:=so)
  simp only [y9,AH.read,ao b hb,h,Nat.zero_add,List.drop_zero]
  rw [ja,if_pos (by rw [List.length_append,this];omega),← this,List.take_left]
  rfl
 by_cases h0:so.length=0
 ·have e:so=[]:=List.length_eq_zero_iff.1 h0
  subst e
  refine ⟨H.n,A.set H.n (.cells [] 41 { whole:=true }),{ whole:=true },?_,rfl,rfl,by rw [AH.af,if_pos rfl];rfl,Nat.le_refl _,by simp only [AH.aZ];omega,by simp only [AH.aZ];omega,fun c hc=>by rw [AH.af,if_neg (by omega)];exact ao c hc⟩
  unfold bZ
  simp only [t1,t2,t3,Fm,Option.bind_some]
  simp [AH.write,ag,flat,ax]
 ·refine ⟨A.n,A.alloc (.cells (flat ay.cells so) 41 { fT:=true }),{ fT:=true },?_,rfl,rfl,by rw [AH.aa,if_pos rfl],by omega,by simp,by simp;omega,fun c hc=>by rw [AH.aa,if_neg (by omega)];exact ao c hc⟩
  unfold bZ
  simp only [t1,t2,t3,Fm,Option.bind_some]
  have c1 : ¬ (0+so.length≤0):=by omega
  have ha:(flat ay.cells so).all AV.one=true:=qg (fun x=>x.ef) so
  have Fu : ¬ ((2*(0+so.length)+1000)*32 > 2 ^ 48):=by omega
  simp only [c1,if_false]
  have hz:(zeroOf Tryd.prog 41).map (fun z=>z.cells.length)=some 4:=by rw [t4];rfl
  have DH : ¬ ((32:Nat)=0∨(2*(0+so.length)+1000)*32 > 2 ^ 48∨(flat ay.cells so).all AV.one=false∨(zeroOf Tryd.prog 41).map (fun z=>z.cells.length) ≠ some 4):=by
   rintro (e | e | e | e)
   ·cases e
   ·exact Fu e
   ·rw [ha] at e;cases e
   ·exact e hz
  rw [if_neg DH,ag]
  simp [Nat.zero_add]
theorem G1 {H:AH} {q:Option Nat} {cp:Nat} {so:List ay} (hq:iG H q cp so) (hl:so.length≤100000) :
  az Tryd.prog 98 [.slice (q.map fun b=>(b,0)) so.length cp] H fun v H'=>∃q',v=sl q' so.length∧C1 H H' q' so∧H.n≤H'.n∧∀c,c<H.n→H'.get c=H.get c:=by
 obtain ⟨h1,h2⟩:=hq
 cases q with
 | none =>
  obtain ⟨e,e2⟩ : so=[]∧cp=0:=h1
  subst e;subst e2
  refine .inl ⟨aB (by kernel_rfl),ew (aT:=[]) au ?_⟩
  show gP _ _ _ _ [.slice none 0 0] _ _
  rw [BG]
  exact ⟨none,rfl,rfl,Nat.le_refl _,fun _ _=>rfl⟩
 | some b =>
  obtain ⟨e,fl,more,h1,_⟩ : ∃e fl more,H.get b=some (.cells (flat ay.cells (so ++ more)) e fl)∧cp=(so ++ more).length:=h1
  refine .inl ⟨aB (by kernel_rfl),ew (aT:=[]) au ?_⟩
  show gP _ _ _ _ [.slice (some (b,0)) so.length cp] _ _
  rw [Ey]
  simp only [bL,bq,fD]
  obtain ⟨c,H',g,a1,a2,a3,a4,a5,a6,a7,a8⟩:=FO h1 (h2 b rfl) hl cp
  exact ⟨⟨by decide,by decide,by decide,by decide,by decide⟩,_,_,_,H',a1,some c,rfl,⟨g,a2,a3,a4,a5,a6⟩,a7,a8⟩
theorem En:(jz Tryd.prog ext 300 99 [.slice none 0 0,.func (.func 100) [] []] (aR Tryd.prog)).map (·.1)=some (.tuple []):=by kernel_rfl
theorem Bt:Pure Tryd.prog 99 [.slice none 0 0,.func (.func 100) [] []] (.tuple []) :=
 gR.oM (bH.of_run au CJ (by kernel_rfl) En) (by kernel_rfl) rfl (by rintro v rfl;rfl)
theorem GY (s:List UInt8) {H:AH} {q:Option Nat} {cp:Nat} {so:List ay} (hq:iG H q cp so) (hl:so.length≤100000) :
  az Tryd.prog 86 [.agg [.str s,.slice (q.map fun b=>(b,0)) so.length cp]] H fun v H'=>∃q' p,v=sl q' so.length∧fL H' q' (nI so p)∧bE so.length p (fun i=>i)∧jv (Kg so) p 0 so.length∧H.n≤H'.n∧∀c,c<H.n→H'.get c=H.get c:=by
 refine .inl ⟨aB (by kernel_rfl),ew (aT:=[]) au ?_⟩
 show gP _ _ _ _ [.agg [.str s,.slice (q.map fun b=>(b,0)) so.length cp]] _ _
 rw [Ew]
 simp only [bL,bq,aY,aJ]
 obtain ⟨A,hA⟩ : ∃A,A=H.alloc (.cells [.str s,.slice (q.map fun b=>(b,0)) so.length cp] 26 { whole:=true }):=⟨_,rfl⟩
 rw [← hA]
 have ag:A.get H.n=some (.cells [.str s,.slice (q.map fun b=>(b,0)) so.length cp] 26 { whole:=true }):=by rw [hA,AH.aa,if_pos rfl]
 have ao : ∀c,c<H.n→A.get c=H.get c:=fun c hc=>by rw [hA,AH.aa,if_neg (by omega)]
 have an:A.n=H.n+1:=by rw [hA];rfl
 refine ⟨(by trivial),q.map fun b=>(b,0),so.length,cp,by unfold AH.ak;rw [ag];rfl,?_⟩
 refine (G1 (hq.gM (by omega) ao) hl).mono ?_
 rintro v B ⟨q',rfl,hr,b1,b2⟩
 refine ⟨q'.map fun b=>(b,0),so.length,so.length,rfl,?_⟩
 cases q' with
 | none =>
  have e:so=[]:=hr
  subst e
  refine Bt.dS ⟨none,fun i=>i,rfl,⟨rfl,fun b hb=>by cases hb⟩,bE.refl _ _,fun i j h1 h2 h3=>by simp at h3,by omega,fun c hc=>by rw [b2 c (by omega)];exact ao c hc⟩
 | some b =>
  obtain ⟨fl,f1,f2,f3,f4,f5⟩:=hr
  have hH:fq (Tx so fl f1 f2) B b (fun i=>i) so.length:=by
   have e:(List.range so.length).map (bf so)=so:=by
    apply List.ext_getElem
    ·simp
    ·intro i h1 h2
     rw [List.getElem_map,List.getElem_range,fB h2]
   show B.get b=some (.cells (flat ay.cells ((List.range so.length).map (bf so))) 41 _)
   rw [e];exact f3
  refine (GN hH (by omega)).mono ?_
  rintro v C ⟨p,⟨rfl,c1,c2,c3⟩,hs,hp⟩
  refine ⟨some b,p,rfl,⟨⟨fl,c1⟩,fun c hc=>by cases hc;omega⟩,hp,hs,by omega,fun c hc=>?_⟩
  rw [c3 c (by omega) (by omega),b2 c (by omega)];exact ao c hc
end Go.Proofs.YtlkdhhkncoekgaaDoor
