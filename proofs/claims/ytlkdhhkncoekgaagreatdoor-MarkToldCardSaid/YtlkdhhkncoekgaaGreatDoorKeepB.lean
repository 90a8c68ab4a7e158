/- How signs look, by style.looks: the spans put in order, the outermost first, each laid over. -/
import Derived.Test.YtlkdhhkncoekgaaGreatDoorKeepA
namespace Go.Proofs.YtlkdhhkncoekgaaGreatDoor
open Go.Am Go
def S3 (a b:Int):Int:=if a=0 then b else a
set_option maxRecDepth 100000 in
theorem Jz {H:AH} {bk:Nat} {a b:Int} {fl:Fl} (h:H.get bk=some (.cells [.int .i64 a,.int .i64 b] 3 fl)):aD Tryz.prog 129 [.slice (some (bk,0)) 2 2] H fun v H'=>v=.int .i64 (S3 a b)∧H'=H:=by
 refine .inl ⟨aB (by kernel_rfl),bP (aS:=_) (c9:=_) aq (Eq.mpr (Gk (real Tryz.prog) (Iter Tryz.prog) bk H _) ?_)⟩
 simp only [aQ,aK]
 have r : ∀i,H.ak bk i=([.int .i64 a,.int .i64 b]:List AV)[i]?:=fun i=>by unfold AH.ak;rw [h]
 refine ⟨fun x H' j=>H=H'∧((x=0∧j=3)∨(x=1∧j=2∧a=0)∨(x=2∧j=1∧a=0∧b=0)),⟨0,3,rfl,rfl,.inl ⟨rfl,rfl⟩⟩,?_⟩
 have w : ∀k:Int,0≤k→k<4→IntKind.i64.wrap (k+1)=k+1:=fun k h1 h2=>wrap_i64 (by omega) (by omega)
 rintro x _ j ⟨rfl,h⟩
 unfold S3
 rcases h with ⟨rfl,rfl⟩ | ⟨rfl,rfl,ha⟩ | ⟨rfl,rfl,ha,hb⟩
 ·have d:decide ((0:Int)<2)=true:=by decide
  simp only [d,cond_true]
  refine ⟨bk,0,⟨rfl,by omega,by omega⟩,a,by rw [r];rfl,?_⟩
  cases hz:(a != 0) with
  | true =>
   simp only [cond_true]
   have:a ≠ 0:=by simpa using hz
   rw [if_neg this];exact ⟨by trivial,by trivial⟩
  | false =>
   simp only [cond_false]
   have ha:a=0:=by simpa using hz
   exact ⟨1,2,by omega,by rw [w 0 (by omega) (by omega)];rfl,trivial,.inr (.inl ⟨rfl,rfl,ha⟩)⟩
 ·have d:decide ((1:Int)<2)=true:=by decide
  simp only [d,cond_true]
  refine ⟨bk,0,⟨rfl,by omega,by omega⟩,b,by rw [r];rfl,?_⟩
  rw [if_pos ha]
  cases hz:(b != 0) with
  | true=>simp only [cond_true];exact ⟨by trivial,by trivial⟩
  | false =>
   simp only [cond_false]
   have hb:b=0:=by simpa using hz
   exact ⟨2,1,by omega,by rw [w 1 (by omega) (by omega)];rfl,trivial,.inr (.inr ⟨rfl,rfl,ha,hb⟩)⟩
 ·have d:decide ((2:Int)<2)=false:=by decide
  simp only [d,cond_false]
  rw [if_pos ha,hb];exact ⟨by trivial,by trivial⟩
def Mf (x y:av):Int:=S3 (p5 x.f y.f) (p5 y.t x.t)
theorem Me (x y:av):decide (Mf x y<0)=Oe x y:=by
 rw [Bool.eq_iff_iff,decide_eq_true_iff,sZ]
 unfold Mf S3 p5
 by_cases h1:x.f<y.f
 ·rw [if_pos h1];simp;omega
 ·rw [if_neg h1]
  by_cases h2:x.f > y.f
  ·rw [if_pos h2];simp;omega
  ·rw [if_neg h2]
   by_cases h3:y.t<x.t
   ·rw [if_pos h3];simp;omega
   ·rw [if_neg h3]
    by_cases h4:y.t > x.t
    ·rw [if_pos h4];simp;omega
    ·rw [if_neg h4];simp;omega
theorem xW (x y:av):Pure Tryz.prog 128 [.agg [.int .i64 x.f,.int .i64 x.t,.int .i64 x.k,.int .i64 x.v],.agg [.int .i64 y.f,.int .i64 y.t,.int .i64 y.k,.int .i64 y.v]] (.int .i64 (Mf x y)):=by
 refine Pure.fB aq [] (by kernel_rfl) rfl rfl ?_
 rw [Ch]
 simp only [bu,aU,aQ,aF,AH.az,nG]
 obtain ⟨A,hA⟩ : ∃A,A=((aL Tryz.prog).alloc (.cells [.int .i64 x.f,.int .i64 x.t,.int .i64 x.k,.int .i64 x.v] 54 { whole:=true })).alloc (.cells [.int .i64 y.f,.int .i64 y.t,.int .i64 y.k,.int .i64 y.v] 54 { whole:=true }):=⟨_,rfl⟩
 rw [← hA]
 have g0:A.get 3=some (.cells [.int .i64 x.f,.int .i64 x.t,.int .i64 x.k,.int .i64 x.v] 54 { whole:=true }):=by rw [hA];simp [AH.aa,nG]
 have g1:A.get (3+1)=some (.cells [.int .i64 y.f,.int .i64 y.t,.int .i64 y.k,.int .i64 y.v] 54 { whole:=true }):=by rw [hA];simp [AH.aa,nG]
 have r0 : ∀i,A.ak 3 i=([.int .i64 x.f,.int .i64 x.t,.int .i64 x.k,.int .i64 x.v]:List AV)[i]?:=fun i=>by unfold AH.ak;rw [g0]
 have r1 : ∀i,A.ak (3+1) i=([.int .i64 y.f,.int .i64 y.t,.int .i64 y.k,.int .i64 y.v]:List AV)[i]?:=fun i=>by unfold AH.ak;rw [g1]
 refine ⟨trivial,trivial,x.f,by rw [r0];rfl,y.f,by rw [r1];rfl,y.t,by rw [r1];rfl,x.t,by rw [r0];rfl,?_⟩
 refine (fQ _ _).c7 ⟨_,rfl,⟨_,by rw [r0];rfl,rfl⟩,⟨_,by rw [r1];rfl,rfl⟩,?_⟩
 refine (fQ _ _).c7 ⟨_,rfl,by decide,?_⟩
 refine (Jz (fl:={ whole:=true }) (by rw [AH.aa,if_pos rfl])).mono ?_
 rintro v H' ⟨rfl,_⟩
 exact ⟨_,rfl,rfl⟩
def Up (so:List av) (fl:Fl) (h1:fl.own=true) (h2:fl.fz=0):vV where
 toOrdr:=KY so
 g:=128
 hg:=.inr rfl
 cmp:=Mf
 pure:=xW
 dec:=Me
 fl:=fl
 own:=h1
 fz:=h2
def Dy (H H' : AH) (q:Option Nat) (so:List av):Prop :=
 match q with
 | none=>so=[]
 | some b=>∃fl:Fl,fl.own=true∧fl.fz=0∧H'.get b=some (.cells (flat av.cells so) 54 fl)∧H.n≤b∧b<H'.n
theorem Dy.text {H H' : AH} {q:Option Nat} {so:List av} (h:Dy H H' q so):ep H' q so:=by
 cases q with
 | none=>exact ⟨h,fun b hb=>by cases hb⟩
 | some b =>
  obtain ⟨fl,_,_,h3,_,h5⟩:=h
  exact ⟨⟨fl,h3⟩,fun c hc=>by cases hc;exact h5⟩
theorem Gm {H:AH} {b:Nat} {so more:List av} {e:TypeId} {fl:Fl} (h:H.get b=some (.cells (flat av.cells (so ++ more)) e fl)) (hb:b<H.n) (hl:so.length≤100000) (cp:Nat) :
  ∃(c:Nat) (H' : AH) (g:Fl),bV Tryz.prog (H.alloc (.cells [] 54 { whole:=true })) 22 22 (.slice (some (H.n,0)) 0 0) (.slice (some (b,0)) so.length cp)=some (.slice (some (c,0)) so.length so.length,H')∧g.own=true∧g.fz=0 ∧
   H'.get c=some (.cells (flat av.cells so) 54 g)∧H.n≤c∧c<H'.n∧H.n≤H'.n∧∀c,c<H.n→H'.get c=H.get c:=by
 have t1:Tryz.prog.underlying 22=some (.slice 54):=by kernel_rfl
 have t2:bY Tryz.prog 54=some 4:=by kernel_rfl
 have t3:ve Tryz.prog 54=some 32:=by kernel_rfl
 have t4:zeroOf Tryz.prog 54=some (.agg [.int .i64 0,.int .i64 0,.int .i64 0,.int .i64 0]):=by kernel_rfl
 obtain ⟨A,hA⟩ : ∃A,A=H.alloc (.cells [] 54 { whole:=true }):=⟨_,rfl⟩
 rw [← hA]
 have ag:A.get H.n=some (.cells [] 54 { whole:=true }):=by rw [hA,AH.aa,if_pos rfl]
 have ao : ∀c,c<H.n→A.get c=H.get c:=fun c hc=>by rw [hA,AH.aa,if_neg (by omega)]
 have an:A.n=H.n+1:=by rw [hA];rfl
 have FY:nY A 4 (.slice (some (b,0)) so.length cp)=some (so.length,flat av.cells so):=by
  have:=bS av.ay (l:=so)
  simp only [nY,AH.read,ao b hb,h,Nat.zero_add,List.drop_zero]
  rw [gO,if_pos (by rw [List.length_append,this];omega),← this,List.take_left]
  rfl
 by_cases h0:so.length=0
 ·have e:so=[]:=List.length_eq_zero_iff.1 h0
  subst e
  refine ⟨H.n,A.set H.n (.cells [] 54 { whole:=true }),{ whole:=true },?_,rfl,rfl,by rw [AH.af,if_pos rfl];rfl,Nat.le_refl _,by simp only [AH.bq];omega,by simp only [AH.bq];omega,fun c hc=>by rw [AH.af,if_neg (by omega)];exact ao c hc⟩
  unfold bV
  simp only [t1,t2,t3,FY,Option.bind_some]
  simp [AH.write,ag,flat,aA]
 ·refine ⟨A.n,A.alloc (.cells (flat av.cells so) 54 { fD:=true }),{ fD:=true },?_,rfl,rfl,by rw [AH.aa,if_pos rfl],by omega,by simp,by simp;omega,fun c hc=>by rw [AH.aa,if_neg (by omega)];exact ao c hc⟩
  unfold bV
  simp only [t1,t2,t3,FY,Option.bind_some]
  have c1 : ¬ (0+so.length≤0):=by omega
  have ha:(flat av.cells so).all AV.one=true:=m8 (fun x=>x.dz) so
  have F4 : ¬ ((2*(0+so.length)+1000)*32 > 2 ^ 48):=by omega
  simp only [c1,if_false]
  have hz:(zeroOf Tryz.prog 54).map (fun z=>z.cells.length)=some 4:=by rw [t4];rfl
  have rU : ¬ ((32:Nat)=0∨(2*(0+so.length)+1000)*32 > 2 ^ 48∨(flat av.cells so).all AV.one=false∨(zeroOf Tryz.prog 54).map (fun z=>z.cells.length) ≠ some 4):=by
   rintro (e | e | e | e)
   ·cases e
   ·exact F4 e
   ·rw [ha] at e;cases e
   ·exact e hz
  rw [if_neg rU,ag]
  simp [Nat.zero_add]
theorem HC {H:AH} {q:Option Nat} {cp:Nat} {so:List av} (hq:fE H q cp so) (hl:so.length≤100000) :
  aD Tryz.prog 126 [.slice (q.map fun b=>(b,0)) so.length cp] H fun v H'=>∃q',v=sl q' so.length∧Dy H H' q' so∧H.n≤H'.n∧∀c,c<H.n→H'.get c=H.get c:=by
 obtain ⟨h1,h2⟩:=hq
 cases q with
 | none =>
  obtain ⟨e,e2⟩ : so=[]∧cp=0:=h1
  subst e;subst e2
  refine .inl ⟨aB (by kernel_rfl),c6 (aS:=[]) aq ?_⟩
  show fG _ _ _ _ [.slice none 0 0] _ _
  rw [Cj]
  exact ⟨none,rfl,rfl,Nat.le_refl _,fun _ _=>rfl⟩
 | some b =>
  obtain ⟨e,fl,more,h1,_⟩ : ∃e fl more,H.get b=some (.cells (flat av.cells (so ++ more)) e fl)∧cp=(so ++ more).length:=h1
  refine .inl ⟨aB (by kernel_rfl),c6 (aS:=[]) aq ?_⟩
  show fG _ _ _ _ [.slice (some (b,0)) so.length cp] _ _
  rw [E7]
  simp only [bu,aU,eR]
  obtain ⟨c,H',g,a1,a2,a3,a4,a5,a6,a7,a8⟩:=Gm h1 (h2 b rfl) hl cp
  exact ⟨⟨by decide,by decide,by decide,by decide,by decide⟩,_,_,_,H',a1,some c,rfl,⟨g,a2,a3,a4,a5,a6⟩,a7,a8⟩
theorem ET:(jX Tryz.prog ext 300 127 [.slice none 0 0,.func (.func 128) [] []] (aL Tryz.prog)).map (·.1)=some (.tuple []):=by kernel_rfl
theorem B5:Pure Tryz.prog 127 [.slice none 0 0,.func (.func 128) [] []] (.tuple []) :=
 ie.pz (bL.of_run aq Di (by kernel_rfl) ET) (by kernel_rfl) rfl (by rintro v rfl;rfl)
theorem Hz (s:List UInt8) {H:AH} {q:Option Nat} {cp:Nat} {so:List av} (hq:fE H q cp so) (hl:so.length≤100000) :
  aD Tryz.prog 102 [.agg [.str s,.slice (q.map fun b=>(b,0)) so.length cp]] H fun v H'=>∃q' p,v=sl q' so.length∧ep H' q' (oh so p)∧bM so.length p (fun i=>i)∧jS (KY so) p 0 so.length∧H.n≤H'.n∧∀c,c<H.n→H'.get c=H.get c:=by
 refine .inl ⟨aB (by kernel_rfl),c6 (aS:=[]) aq ?_⟩
 show fG _ _ _ _ [.agg [.str s,.slice (q.map fun b=>(b,0)) so.length cp]] _ _
 rw [E5]
 simp only [bu,aU,aQ,aF]
 obtain ⟨A,hA⟩ : ∃A,A=H.alloc (.cells [.str s,.slice (q.map fun b=>(b,0)) so.length cp] 24 { whole:=true }):=⟨_,rfl⟩
 rw [← hA]
 have ag:A.get H.n=some (.cells [.str s,.slice (q.map fun b=>(b,0)) so.length cp] 24 { whole:=true }):=by rw [hA,AH.aa,if_pos rfl]
 have ao : ∀c,c<H.n→A.get c=H.get c:=fun c hc=>by rw [hA,AH.aa,if_neg (by omega)]
 have an:A.n=H.n+1:=by rw [hA];rfl
 refine ⟨(by trivial),q.map fun b=>(b,0),so.length,cp,by unfold AH.ak;rw [ag];rfl,?_⟩
 refine (HC (hq.eA (by omega) ao) hl).mono ?_
 rintro v B ⟨q',rfl,hr,b1,b2⟩
 refine ⟨q'.map fun b=>(b,0),so.length,so.length,rfl,?_⟩
 cases q' with
 | none =>
  have e:so=[]:=hr
  subst e
  refine B5.c7 ⟨none,fun i=>i,rfl,⟨rfl,fun b hb=>by cases hb⟩,bM.refl _ _,fun i j h1 h2 h3=>by simp at h3,by omega,fun c hc=>by rw [b2 c (by omega)];exact ao c hc⟩
 | some b =>
  obtain ⟨fl,f1,f2,f3,f4,f5⟩:=hr
  have hH:fC (Up so fl f1 f2) B b (fun i=>i) so.length:=by
   have e:(List.range so.length).map (br so)=so:=by
    apply List.ext_getElem
    ·simp
    ·intro i h1 h2
     rw [List.getElem_map,List.getElem_range,fI h2]
   show B.get b=some (.cells (flat av.cells ((List.range so.length).map (br so))) 54 _)
   rw [e];exact f3
  refine (Hl hH (by omega)).mono ?_
  rintro v C ⟨p,⟨rfl,c1,c2,c3⟩,hs,hp⟩
  refine ⟨some b,p,rfl,⟨⟨fl,c1⟩,fun c hc=>by cases hc;omega⟩,hp,hs,by omega,fun c hc=>?_⟩
  rw [c3 c (by omega) (by omega),b2 c (by omega)];exact ao c hc
end Go.Proofs.YtlkdhhkncoekgaaGreatDoor
