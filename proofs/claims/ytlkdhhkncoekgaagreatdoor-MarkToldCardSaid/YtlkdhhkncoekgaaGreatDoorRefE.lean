/- The spans of a normal form, by the reference's functions. -/
import Derived.Test.YtlkdhhkncoekgaaGreatDoorRefD
section
namespace Go.Proofs.YtlkdhhkncoekgaaGreatDoor
open Go.Am Go
theorem AW (a:List av) (x:av):aR (a ++ [x])=gb (aR a) x:=by rw [vI];rfl
theorem jL (a:List av):(aR a).length=a.length:=(jo a).2.length_eq
structure NZ (H H' : AH) (n:Nat) (cut:Nat→Bool) (qo:Option Nat) (out:List av) (qm:Option Nat) (sx:List av):Prop where
 old : ∀c,c<H.n→H'.get c=H.get c
 cut:H'.get H.n=some (.cells (di cut n) 4 {})
 lt:H.n<H'.n
 out:bQ H' qo out.length (flat av.cells out) 54
 bo : ∀c,qo=some c→H.n<c∧c<H'.n
 sx:bQ H' qm sx.length (flat av.cells sx) 54
 bm : ∀c,qm=some c→H.n<c∧c<H'.n∧qo ≠ some c
theorem NZ.eA {H H1 H2:AH} {n:Nat} {cut:Nat→Bool} {qo:Option Nat} {out:List av} {qm:Option Nat} {sx:List av} (h:NZ H H1 n cut qo out qm sx) (hn:H1.n≤H2.n) (k : ∀c,c<H1.n→H2.get c=H1.get c):NZ H H2 n cut qo out qm sx:=by
 have:=h.lt
 exact ⟨fun c hc=>by rw [k c (by omega)];exact h.old c hc,by rw [k _ h.lt];exact h.cut,by omega,h.out.same fun b hb=>k b (h.bo b hb).2,fun c hc=>by have:=h.bo c hc;omega,h.sx.same fun b hb=>k b (h.bm b hb).2.1,fun c hc=>by have:=h.bm c hc;exact ⟨this.1,by omega,this.2.2⟩⟩
set_option maxRecDepth 100000 in
theorem Fo (L:List aj) (hL:L.length≤4096) (hc : ∀a ∈ L,0≤a.c∧a.c≤16777216) (y6:(bt L).length≤256) {H:AH} {q:Option Nat} (hq:jE H q L) :
  aD Tryz.prog 72 [sl q L.length] H fun v H' =>
   ∃q',v=.tuple [sl q' (aR (bt L)).length,.bool true]∧bQ H' q' (aR (bt L)).length (flat av.cells (aR (bt L))) 54∧(∀b,q'=some b→H.n≤b∧b<H'.n)∧H.n≤H'.n∧∀c,c<H.n→H'.get c=H.get c:=by
 obtain ⟨Q,hQ⟩ : ∃Q:AV→AH→Prop,Q=fun v H'=>∃q',v=.tuple [sl q' (aR (bt L)).length,.bool true]∧bQ H' q' (aR (bt L)).length (flat av.cells (aR (bt L))) 54∧(∀b,q'=some b→H.n≤b∧b<H'.n)∧H.n≤H'.n∧∀c,c<H.n→H'.get c=H.get c:=⟨_,rfl⟩
 rw [← hQ]
 obtain ⟨n,hn⟩ : ∃n,n=L.length:=⟨_,rfl⟩
 refine .inl ⟨aB (by kernel_rfl),bP (aS:=_) (c9:=_) aq (Eq.mpr (CA (real Tryz.prog) (Iter Tryz.prog) (q.map fun b=>(b,0)) L.length H Q) ?_)⟩
 simp only [bu,aU,aQ,aP,aF,bU,aK,eR,tT]
 rw [← hn] at hL ⊢
 have e1:IntKind.i64.wrap ((n:Int)+1)=((n+1:Nat):Int):=by rw [wrap_i64 (by omega) (by omega)];omega
 rw [e1]
 have rd : ∀ {H' : AH} {i:Nat},(∀c,c<H.n→H'.get c=H.get c)→(h:i<L.length)→∃b,q=some b∧H'.read b (0+i*5) 5=some L[i].cells:=by
  intro H' i ho hi
  cases q with
  | none=>rw [show L=[] from hq] at hi;cases hi
  | some b =>
   obtain ⟨h1,fl,h2⟩:=hq
   exact ⟨b,rfl,cH aj.ay (by rw [ho b h1];exact h2) hi⟩
 refine ⟨_,_,_,_,wK H (n+1) (by omega),?_⟩
 have Pz:NZ H (H.alloc (.cells (cJ [.bool false] (n+1)) 4 {})) n (fun _=>false) none [] none [] :=
  ⟨fun c hc=>by rw [AH.aa,if_neg (by omega)],by rw [AH.aa,if_pos rfl,r8],by simp,⟨rfl,rfl⟩,(fun c h=>by cases h),⟨rfl,rfl⟩,(fun c h=>by cases h)⟩
 refine ⟨fun x H' j=>∃k qo,k≤5∧x=((n:Int),(some (H.n,0),n+1),(qo.map (fun b=>(b,0)),(aR (ax L k).1).length),((k+1:Nat):Int))∧NZ H H' n (ax L k).2 qo (aR (ax L k).1) none []∧j=5 - k,
  ⟨((n:Int),(some (H.n,0),n+1),(none,0),1),5,rfl,0,none,by omega,rfl,Pz,rfl⟩,?_⟩
 rintro _ H1 j1 ⟨k,qo,hk,rfl,hz,rfl⟩
 simp only
 by_cases Z7:k<5
 ·have d1:decide (((k+1:Nat):Int)≤5)=true:=by rw [decide_eq_true_iff];omega
  simp only [d1,cond_true]
  obtain ⟨K,hK⟩ : ∃K,K=ax L k:=⟨_,rfl⟩
  obtain ⟨kd,Nc⟩ : ∃kd:Int,kd=((k+1:Nat):Int):=⟨_,rfl⟩
  have Us:1≤kd∧kd≤5:=by omega
  rw [← hK] at hz
  rw [← hK,← Nc]
  obtain ⟨out,sF⟩ : ∃out,out=aR K.1:=⟨_,rfl⟩
  have GM:out.length=K.1.length:=by rw [sF,jL]
  rw [← sF] at hz ⊢
  obtain ⟨S0,Je⟩ : ∃S0,S0=bB (val L kd) K.2 n kd 0:=⟨_,rfl⟩
  have ZH:K.1.length+S0.length≤256:=by
   have h1:=uq L (show k+1≤5 by omega)
   rw [uk,List.length_append,← hK,← hn,← Nc,← Je] at h1
   have h2:(ax L 5).1.length≤256:=y6
   omega
  refine ⟨fun x H' j=>∃(i:Nat) (done:List av) (qm:Option Nat),x=(((n:Int),(some (H.n,0),n+1),(qo.map (fun b=>(b,0)),out.length),kd),(qm.map (fun b=>(b,0)),done.length),(i:Int))∧i≤n ∧
    done ++ bB (val L kd) K.2 n kd i=S0∧NZ H H' n K.2 qo out qm done∧j=n - i,
   ⟨(((n:Int),(some (H.n,0),n+1),(qo.map (fun b=>(b,0)),out.length),kd),(none,0),0),n,rfl,0,[],none,rfl,Nat.zero_le _,by rw [Je];rfl,hz,rfl⟩,?_⟩
  rintro _ H2 j2 ⟨i,done,qm,rfl,hi,lA,ju,rfl⟩
  simp only
  have Vq:done.length≤S0.length:=by
   have:=congrArg List.length lA
   rw [List.length_append] at this;omega
  by_cases fO:i<n
  ·have d2:decide ((i:Int)<(n:Int))=true:=by rw [decide_eq_true_iff];omega
   simp only [d2,cond_true]
   obtain ⟨b,rfl,iu⟩:=rd ju.old (i:=i) (by omega)
   have hv:L[i].get kd=val L kd i:=(lO (by omega)).symm
   obtain ⟨YZ,YY⟩:=v9 hc (k:=kd) (i:=i) (by omega)
   refine ⟨b,0,⟨rfl,by omega,by omega⟩,_,_,_,_,_,iu,?_⟩
   refine (wA L[i] kd Us).c7 ⟨_,rfl,?_⟩
   rw [hv]
   have w1:IntKind.i64.wrap ((i:Int)+1)=((i+1:Nat):Int):=EJ i (by omega)
   rw [w1]
   obtain ⟨e,he⟩ : ∃e,e=cS (alike (val L kd) K.2 i) n (i+1):=⟨_,rfl⟩
   have Vp:i<e∧e≤n:=by
    have:=dQ (g:=alike (val L kd) K.2 i) (n:=n) (j:=i+1) (by omega)
    rw [← he] at this;omega
   obtain ⟨base,dI⟩ : ∃base:(Int×(Option (Nat×Nat)×Nat)×(Option (Nat×Nat)×Nat)×Int)×(Option (Nat×Nat)×Nat)×Int,base=(((n:Int),(some (H.n,0),n+1),(qo.map (fun b=>(b,0)),out.length),kd),(qm.map (fun b=>(b,0)),done.length),(i:Int)):=⟨_,rfl⟩
   refine ⟨fun x H'=>x=(base,val L kd i,(e:Int))∧H2=H',⟨?_,?_⟩⟩
   ·
    refine ⟨fun x H' j=>∃jj:Nat,x=(base,val L kd i,(jj:Int))∧H2=H'∧i<jj∧jj≤n∧cS (alike (val L kd) K.2 i) n jj=e∧j=n - jj,
     ⟨(base,val L kd i,((i+1:Nat):Int)),n - (i+1),by rw [dI],i+1,rfl,rfl,by omega,by omega,he.symm,rfl⟩,?_⟩
    rintro _ _ j3 ⟨jj,rfl,rfl,c1,c2,c3,rfl⟩
    rw [dI]
    simp only
    by_cases hj:jj<n
    ·have d3:decide ((jj:Int)<(n:Int))=true:=by rw [decide_eq_true_iff];omega
     simp only [d3,BEq.rfl,cond_true]
     obtain ⟨b',dM,uG⟩:=rd ju.old (i:=jj) (by omega)
     cases dM
     have UK:L[jj].get kd=val L kd jj:=(lO (by omega)).symm
     refine ⟨b,0,fun _=>⟨rfl,by omega,by omega⟩,L[jj].b,L[jj].i,L[jj].u,L[jj].k,L[jj].c,fun _=>uG,?_⟩
     refine (wA L[jj] kd Us).c7 ⟨_,rfl,H.n,0,fun _=>⟨rfl,by omega,by omega⟩,K.2 jj,fun _=>?_,?_⟩
     ·unfold AH.ak
      rw [ju.cut]
      simp only
      rw [show 0+((jj:Int)).toNat*1=jj by omega,gj,if_pos (by omega)]
     ·rw [UK]
      have ea:(val L kd jj == val L kd i && !K.2 jj)=alike (val L kd) K.2 i jj:=rfl
      rw [ea]
      cases ha:alike (val L kd) K.2 i jj with
      | true =>
       refine ⟨(base,val L kd i,((jj+1:Nat):Int)),n - (jj+1),by omega,?_,jj+1,by rw [dI],rfl,by omega,by omega,by rw [← c3,DG hj ha],rfl⟩
       rw [dI,EJ jj (by omega)]
      | false =>
       have:jj=e:=by rw [← c3,vY hj ha]
       subst this
       exact ⟨(base,val L kd i,(jj:Int)),0,trivial,by rw [dI],by rw [dI],rfl⟩
    ·have d3:decide ((jj:Int)<(n:Int))=false:=by rw [decide_eq_false_iff_not];omega
     have ff:(false == true)=false:=rfl
     simp only [d3,ff,cond_false]
     have:jj=e:=by rw [← c3,zR (by omega)]
     subst this
     refine ⟨0,0,(fun h=>absurd h (by decide)),false,false,false,false,0,(fun h=>absurd h (by decide)),?_⟩
     exact ⟨0,0,(fun h=>absurd h (by decide)),false,(fun h=>absurd h (by decide)),(base,val L kd i,(jj:Int)),0,trivial,by rw [dI],by rw [dI],(by trivial)⟩
   ·rintro _ _ ⟨rfl,rfl⟩
    rw [dI]
    simp only
    have ia:=dR (val:=val L kd) (cut:=K.2) (n:=n) (k:=kd) fO
    rw [← he] at ia
    refine ⟨fun x H'=>∃(Qq:Option Nat) (gP:List av),x=((((n:Int),(some (H.n,0),n+1),(qo.map (fun b=>(b,0)),out.length),kd),(Qq.map (fun b=>(b,0)),gP.length),(i:Int)),(e:Int))∧gP ++ bB (val L kd) K.2 n kd e=S0∧NZ H H' n K.2 qo out Qq gP,⟨?_,?_⟩⟩
    ·by_cases Oq:val L kd i=0
     ·have d4:decide (val L kd i > 0)=false:=by rw [decide_eq_false_iff_not];omega
      simp only [d4,cond_false]
      refine ⟨((((n:Int),(some (H.n,0),n+1),(qo.map (fun b=>(b,0)),out.length),kd),(qm.map (fun b=>(b,0)),done.length),(i:Int)),(e:Int)),0,trivial,rfl,qm,done,rfl,?_,ju⟩
      rw [← lA,ia]
      unfold gG
      rw [if_pos Oq];rfl
     ·have d4:decide (val L kd i > 0)=true:=by rw [decide_eq_true_iff];omega
      simp only [d4,cond_true]
      obtain ⟨y,hy⟩ : ∃y:av,y=⟨i,e,kd,if kd=5 then val L kd i - 1 else 0⟩:=⟨_,rfl⟩
      have GK:gG (val L kd) kd i e=[y]:=by unfold gG;rw [if_neg Oq,hy]
      refine ⟨rfl,(H2.alloc (.cells [.int .i64 0,.int .i64 0,.int .i64 0,.int .i64 0] 54 { whole:=true })).set H2.n (.cells [.int .i64 (i:Int),.int .i64 (e:Int),.int .i64 kd,.int .i64 0] 54 { whole:=true }),by simp [AH.write,AH.aa,aA,AV.one],?_⟩
      refine ⟨fun x H'=>x=((((n:Int),(some (H.n,0),n+1),(qo.map (fun b=>(b,0)),out.length),kd),(qm.map (fun b=>(b,0)),done.length),(i:Int)),(e:Int),H2.n)∧H'.n=H2.n+1∧H'.get H2.n=some (.cells y.cells 54 { whole:=true })∧∀c,c<H2.n→H'.get c=H2.get c,⟨?_,?_⟩⟩
      ·by_cases yX:kd=5
       ·have d5:(kd == (5:Int))=true:=by rw [beq_iff_eq];exact yX
        simp only [d5,cond_true]
        have w2:IntKind.i64.wrap (val L kd i - 1)=val L kd i - 1:=wrap_i64 (by omega) (by omega)
        rw [w2]
        refine ⟨rfl,((H2.alloc (.cells [.int .i64 0,.int .i64 0,.int .i64 0,.int .i64 0] 54 { whole:=true })).set H2.n (.cells [.int .i64 (i:Int),.int .i64 (e:Int),.int .i64 kd,.int .i64 0] 54 { whole:=true })).set H2.n (.cells y.cells 54 { whole:=true }),?_,_,0,trivial,rfl,rfl,rfl,by rw [AH.af,if_pos rfl],fun c hc=>by rw [AH.af,if_neg (by omega),AH.af,if_neg (by omega),AH.aa,if_neg (by omega)]⟩
        rw [hy,if_pos yX]
        unfold AH.write
        rw [AH.af,if_pos rfl]
        simp [aA,AV.one,av.cells]
       ·have d5:(kd == (5:Int))=false:=by rw [beq_eq_false_iff_ne];exact yX
        simp only [d5,cond_false]
        refine ⟨_,0,trivial,rfl,rfl,rfl,by rw [AH.af,if_pos rfl,hy,if_neg yX];rfl,fun c hc=>by rw [AH.af,if_neg (by omega),AH.aa,if_neg (by omega)]⟩
      ·rintro _ H5 ⟨rfl,n5,g5,o5⟩
       simp only
       have uB:=ju.eA (H2:=H5) (by omega) o5
       obtain ⟨H6,g1,g2,g3,g4⟩:=vj (H:=H5.alloc (.cells y.cells 54 { whole:=true })) (q:=qm) (l:=done) (y:=y) (c:=H5.n) (fl:={ whole:=true })
        (uB.sx.same fun b hb=>by have:=uB.bm b hb;rw [AH.aa,if_neg (by omega)]) (by rw [AH.aa,if_pos rfl]) (by omega)
       have OF:=uB.lt
       have o6 : ∀c,c<H5.n→qm ≠ some c→H6.get c=H5.get c:=fun c hc hq=>by rw [g4 c (by simp only [AH.az];omega) hq,AH.aa,if_neg (by omega)]
       have n6:H6.n=H5.n+2:=by rw [g2];simp
       refine ⟨y.f,y.t,y.k,y.v,by simp [AH.read,g5,av.cells],by decide,_,_,_,H6,g1,((((n:Int),(some (H.n,0),n+1),(qo.map (fun b=>(b,0)),out.length),kd),(some (H5.n+1,0),(done ++ [y]).length),(i:Int)),(e:Int)),0,trivial,rfl,some (H5.n+1),done ++ [y],rfl,?_,?_⟩
       ·rw [← lA,ia,GK,List.append_assoc]
       ·refine ⟨fun c hc=>?_,?_,by omega,?_,fun c hc=>?_,g3,fun c hc=>?_⟩
        ·rw [o6 c (by omega) (fun e=>by have:=uB.bm c e;omega)];exact uB.old c hc
        ·rw [o6 _ OF (fun e=>by have:=uB.bm _ e;omega)];exact uB.cut
        ·exact uB.out.same fun b hb=>o6 b (uB.bo b hb).2 fun e=>(uB.bm b e).2.2 hb
        ·have:=uB.bo c hc;omega
        ·cases hc;exact ⟨by omega,by omega,fun e=>by have:=uB.bo _ e;omega⟩
    ·rintro _ H6 ⟨Qq,gP,rfl,Lv,QW⟩
     simp only
     have aaq:gP.length≤S0.length:=by
      have:=congrArg List.length Lv
      rw [List.length_append] at this;omega
     have w3:IntKind.i64.wrap ((out.length:Int)+(gP.length:Int))=(out.length:Int)+(gP.length:Int):=wrap_i64 (by omega) (by omega)
     have d:decide ((out.length:Int)+(gP.length:Int) > 256)=false:=by rw [decide_eq_false_iff_not];omega
     simp only [w3,d,cond_false]
     exact ⟨(((n:Int),(some (H.n,0),n+1),(qo.map (fun b=>(b,0)),out.length),kd),(Qq.map (fun b=>(b,0)),gP.length),(e:Int)),n - e,by omega,rfl,e,gP,Qq,rfl,Vp.2,Lv,QW,rfl⟩
  ·have d2:decide ((i:Int)<(n:Int))=false:=by rw [decide_eq_false_iff_not];omega
   simp only [d2,cond_false]
   obtain rfl:n=i:=by omega
   rw [dS (Nat.le_refl _),List.append_nil] at lA
   have LJ:ax L (k+1)=(K.1 ++ done,eW K.2 done):=by
    show ((ax L k).1 ++ bB (val L (k+1:Nat)) (ax L k).2 L.length (k+1:Nat) 0,eW (ax L k).2 (bB (val L (k+1:Nat)) (ax L k).2 L.length (k+1:Nat) 0))=_
    rw [← hK,← hn,← Nc,← Je,lA]
   have Vz : ∀x ∈ done,∃a b:Nat,x.f=a∧x.t=b∧a≤n∧b≤n:=by
    intro x hx
    rw [lA,Je] at hx
    obtain ⟨a,b,g1,g2,g3,g4,g5,_⟩:=iJ (n - 0) rfl x hx
    exact ⟨a,b,g1,g2,by omega,g5⟩
   refine ⟨fun x H' j=>∃(r:Nat) (qp:Option Nat),x=(((n:Int),(some (H.n,0),n+1),(qp.map (fun b=>(b,0)),(aR (K.1 ++ done.take r)).length),kd),(qm.map (fun b=>(b,0)),done.length),(r:Int))∧r≤done.length∧NZ H H' n (eW K.2 (done.take r)) qp (aR (K.1 ++ done.take r)) qm done∧j=done.length - r,
    ⟨(((n:Int),(some (H.n,0),n+1),(qo.map (fun b=>(b,0)),out.length),kd),(qm.map (fun b=>(b,0)),done.length),0),done.length,rfl,0,qo,by rw [List.take_zero,List.append_nil,← sF];rfl,Nat.zero_le _,?_,rfl⟩,?_⟩
   ·rw [List.take_zero,List.append_nil,← sF]
    refine ⟨ju.old,?_,ju.lt,ju.out,ju.bo,ju.sx,ju.bm⟩
    rw [ju.cut,iz (c:=K.2)]
    intro j _
    simp [eW]
   rintro _ H3 j3 ⟨r,qp,rfl,hr,m7,rfl⟩
   simp only
   by_cases BT:r<done.length
   ·have d6:decide ((r:Int)<(done.length:Int))=true:=by rw [decide_eq_true_iff];omega
    simp only [d6,cond_true]
    obtain ⟨bm,RY⟩ : ∃bm,qm=some bm:=by
     have:=m7.sx
     cases qm with
     | some b=>exact ⟨b,rfl⟩
     | none=>rw [show done=[] from List.length_eq_zero_iff.1 this.1] at BT;cases BT
    have XF:H3.get bm=some (.cells (flat av.cells done) 54 { fD:=true }):=by have:=m7.sx;rw [RY] at this;exact this
    have ZZ:=m7.bm bm RY
    obtain ⟨a,z,ha,iE,J9,Om⟩:=Vz _ (List.getElem_mem BT)
    have Rv:=m7.lt
    obtain ⟨A2,vO⟩ : ∃A2,A2=H3.set H.n (.cells (di (fun j=>eW K.2 (done.take r) j || j == a) n) 4 {}):=⟨_,rfl⟩
    have Wf:A2.get H.n=some (.cells (di (fun j=>eW K.2 (done.take r) j || j == a) n) 4 {}):=by rw [vO,AH.af,if_pos rfl]
    have Dw : ∀c,c ≠ H.n→A2.get c=H3.get c:=fun c hc=>by rw [vO,AH.af,if_neg hc]
    obtain ⟨A3,sH⟩ : ∃A3,A3=A2.set H.n (.cells (di (fun j=>(eW K.2 (done.take r) j || j == a) || j == z) n) 4 {}):=⟨_,rfl⟩
    have a3c:A3.get H.n=some (.cells (di (fun j=>(eW K.2 (done.take r) j || j == a) || j == z) n) 4 {}):=by rw [sH,AH.af,if_pos rfl]
    have TR : ∀c,c ≠ H.n→A3.get c=H3.get c:=fun c hc=>by rw [sH,AH.af,if_neg hc,Dw c hc]
    have a3n:A3.n=H3.n:=by rw [sH,vO];rfl
    have rf : ∀ {K' : AH},K'.get bm=H3.get bm→∀j,j<4→K'.ak bm (0+((r:Nat):Int).toNat*4+j)=(done[r].cells)[j]?:=fun {K'} yX j hj=>by
     rw [Int.toNat_natCast]
     exact kG av.ay (yX.trans XF) BT hj
    have w1:H3.write H.n (0+((a:Int)).toNat*1) [.bool true]=some A2:=by
     unfold AH.write
     rw [m7.cut]
     simp only
     rw [if_pos ⟨trivial,Nat.zero_le _,by rw [dA];simp only [List.length_cons,List.length_nil];omega,by simp [AV.one]⟩,show 0+((a:Int)).toNat*1=a by omega,lf J9,vO]
    have w2:A2.write H.n (0+((z:Int)).toNat*1) [.bool true]=some A3:=by
     unfold AH.write
     rw [Wf]
     simp only
     rw [if_pos ⟨trivial,Nat.zero_le _,by rw [dA];simp only [List.length_cons,List.length_nil];omega,by simp [AV.one]⟩,show 0+((z:Int)).toNat*1=z by omega,lf Om,sH]
    have iu:A3.read bm (0+((r:Nat):Int).toNat*4) 4=some [.int .i64 done[r].f,.int .i64 done[r].t,.int .i64 done[r].k,.int .i64 done[r].v]:=by
     rw [Int.toNat_natCast]
     exact cH av.ay ((TR bm (by omega)).trans XF) BT
    have rU:qm.map (fun b=>(b,0))=some (bm,0)∧(0:Int)≤(r:Int)∧(r:Int)<(done.length:Int):=⟨by rw [RY];rfl,by omega,by omega⟩
    obtain ⟨CT,Ei⟩ : ∃CT,CT=aR (K.1 ++ done.take r):=⟨_,rfl⟩
    have XG:CT.length≤256:=by rw [Ei,jL,List.length_append,List.length_take];omega
    have U5:Ordered CT:=by rw [Ei];exact (jo _).1
    rw [← Ei] at m7 ⊢
    have ZC:zF A3 qp CT:=⟨m7.out.same fun b hb=>TR b (by have:=m7.bo b hb;omega),fun b hb=>by have:=m7.bo b hb;omega⟩
    refine ⟨bm,0,rU,done[r].f,?_,H.n,0,⟨rfl,by omega,by omega⟩,(by trivial),A2,by rw [ha];exact w1,bm,0,rU,done[r].t,?_,H.n,0,⟨rfl,by omega,by omega⟩,(by trivial),A3,by rw [iE];exact w2,bm,0,rU,_,_,_,_,iu,?_⟩
    ·exact rf rfl 0 (by decide)
    ·exact rf (Dw bm (by omega)) 1 (by decide)
    refine (N4 U5 (by omega) done[r] ZC).mono ?_
    rintro v B ⟨q3,rfl,l1,l2,l3,l4⟩
    have jv:aR (K.1 ++ done.take (r+1))=gb CT done[r]:=by
     rw [List.take_succ_eq_append_getElem BT,← List.append_assoc,AW,← Ei]
    refine ⟨_,_,_,rfl,(((n:Int),(some (H.n,0),n+1),(q3.map (fun b=>(b,0)),(gb CT done[r]).length),kd),(qm.map (fun b=>(b,0)),done.length),((r+1:Nat):Int)),done.length - (r+1),by omega,by rw [EJ r (by omega)],r+1,q3,by rw [jv],by omega,?_,rfl⟩
    rw [jv]
    refine ⟨fun c hc=>?_,?_,by omega,l1,fun c hc=>by have:=l2 c hc;omega,m7.sx.same fun c hc=>?_,fun c hc=>?_⟩
    ·rw [l4 c (by omega),TR c (by omega)];exact m7.old c hc
    ·rw [l4 _ (by omega),a3c,iz]
     intro j _
     rw [List.take_succ_eq_append_getElem BT]
     unfold eW
     rw [List.any_append]
     simp only [List.any_cons,List.any_nil,Bool.or_false,ha,iE]
     have x1:((a:Int) == (j:Int))=(j == a):=by rw [Bool.eq_iff_iff,beq_iff_eq,beq_iff_eq];omega
     have x2:((z:Int) == (j:Int))=(j == z):=by rw [Bool.eq_iff_iff,beq_iff_eq,beq_iff_eq];omega
     rw [x1,x2]
     simp only [Bool.or_assoc]
    ·have:=m7.bm c hc
     rw [l4 c (by omega),TR c (by omega)]
    ·have:=m7.bm c hc
     exact ⟨this.1,by omega,fun e=>by have:=l2 c e;omega⟩
   ·have d6:decide ((r:Int)<(done.length:Int))=false:=by rw [decide_eq_false_iff_not];omega
    simp only [d6,cond_false]
    obtain rfl:r=done.length:=by omega
    rw [List.take_length] at m7 ⊢
    refine ⟨((n:Int),(some (H.n,0),n+1),(qp.map (fun b=>(b,0)),(aR (K.1 ++ done)).length),((k+1+1:Nat):Int)),5 - (k+1),by omega,?_,k+1,qp,by omega,by rw [LJ],?_,rfl⟩
    ·rw [wrap_i64 (by omega) (by omega),Nc];rfl
    ·rw [LJ]
     exact ⟨m7.old,m7.cut,m7.lt,m7.out,m7.bo,⟨rfl,rfl⟩,(fun c h=>by cases h)⟩
 ·have d1:decide (((k+1:Nat):Int)≤5)=false:=by rw [decide_eq_false_iff_not];omega
  simp only [d1,cond_false]
  obtain rfl:k=5:=by omega
  have cu:=hz.lt
  rw [hQ]
  exact ⟨qo,rfl,hz.out,fun c hc=>by have:=hz.bo c hc;omega,by omega,hz.old⟩
end Go.Proofs.YtlkdhhkncoekgaaGreatDoor
end
