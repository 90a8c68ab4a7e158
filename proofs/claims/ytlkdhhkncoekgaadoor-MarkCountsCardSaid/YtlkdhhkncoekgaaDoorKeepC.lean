/- How signs look, by style.looks; the signs and their looks, as style.Signs hands them out. -/
import Derived.Test.YtlkdhhkncoekgaaDoorKeepB
namespace Go.Proofs.YtlkdhhkncoekgaaDoor
open Go.Am Go
theorem Nh {H:AH} {b:Nat} {fl:Fl} {L:List aj} (h:H.get b=some (.cells (flat aj.cells L) 53 fl)) (ho:fl.own=true) (hz:fl.fz=0) (hb:b<H.n) {i:Nat} (hi:i<L.length) (x:ay) (hv : -1000000000≤x.v∧x.v≤1000000000) :
  az Tryd.prog 87 [.ptr (some (b,0+i*5)),.agg x.cells] H fun _ H'=>H'.get b=some (.cells (flat aj.cells (L.set i (eJ L[i] x))) 53 fl)∧H.n≤H'.n∧∀c,c<H.n→c ≠ b→H'.get c=H.get c:=by
 refine .inl ⟨aB (by kernel_rfl),ew (aT:=[]) au ?_⟩
 show gP _ _ _ _ [.ptr (some (b,0+i*5)),.agg [.int .i64 x.f,.int .i64 x.t,.int .i64 x.k,.int .i64 x.v]] _ _
 rw [JY]
 simp only [bL,bq,aY,cm,aL]
 obtain ⟨A,hA⟩ : ∃A,A=H.alloc (.cells [.int .i64 x.f,.int .i64 x.t,.int .i64 x.k,.int .i64 x.v] 41 { whole:=true }):=⟨_,rfl⟩
 rw [← hA]
 have ag:A.get H.n=some (.cells [.int .i64 x.f,.int .i64 x.t,.int .i64 x.k,.int .i64 x.v] 41 { whole:=true }):=by rw [hA,AH.aa,if_pos rfl]
 have ao : ∀c,c<H.n→A.get c=H.get c:=fun c hc=>by rw [hA,AH.aa,if_neg (by omega)]
 have an:A.n=H.n+1:=by rw [hA];rfl
 have ZZ:A.get b=_:=(ao b hb).trans h
 have fin : ∀(k:Nat) (vs:List AV) (y:aj),k+vs.length≤5→vs.all AV.one=true→ax (aj.cells L[i]) k vs=aj.cells y→eJ L[i] x=y →
   ∃H1,A.write b (0+i*5+k) vs=some H1∧(H1.get b=some (.cells (flat aj.cells (L.set i (eJ L[i] x))) 53 fl)∧H.n≤H1.n∧∀c,c<H.n→c ≠ b→H1.get c=H.get c):=by
  intro k vs y h1 h2 h3 h4
  refine ⟨_,jU aj.aG ZZ ho hz hi h1 h2 h3,by rw [AH.af,if_pos rfl,h4],by simp only [AH.aZ];omega,fun c hc cU=>by rw [AH.af,if_neg cU];exact ao c hc⟩
 refine ⟨(by trivial),x.k,by unfold AH.ak;rw [ag];rfl,?_⟩
 by_cases h1:x.k=1
 ·rw [beq_iff_eq.2 h1]
  obtain ⟨H1,g1,g2⟩:=fin 0 [.bool true] { L[i] with b:=true } (by decide) rfl rfl (by unfold eJ;rw [if_pos h1])
  exact ⟨by trivial,H1,g1,g2⟩
 rw [beq_eq_false_iff_ne.2 h1]
 by_cases h2:x.k=2
 ·rw [beq_iff_eq.2 h2]
  obtain ⟨H1,g1,g2⟩:=fin 1 [.bool true] { L[i] with i:=true } (by decide) rfl rfl (by unfold eJ;rw [if_neg h1,if_pos h2])
  exact ⟨by trivial,H1,g1,g2⟩
 rw [beq_eq_false_iff_ne.2 h2]
 by_cases h3:x.k=3
 ·rw [beq_iff_eq.2 h3]
  obtain ⟨H1,g1,g2⟩:=fin 2 [.bool true] { L[i] with u:=true } (by decide) rfl rfl (by unfold eJ;rw [if_neg h1,if_neg h2,if_pos h3])
  exact ⟨by trivial,H1,g1,g2⟩
 rw [beq_eq_false_iff_ne.2 h3]
 by_cases h4:x.k=4
 ·rw [beq_iff_eq.2 h4]
  obtain ⟨H1,g1,g2⟩:=fin 3 [.bool true] { L[i] with k:=true } (by decide) rfl rfl (by unfold eJ;rw [if_neg h1,if_neg h2,if_neg h3,if_pos h4])
  exact ⟨by trivial,H1,g1,g2⟩
 rw [beq_eq_false_iff_ne.2 h4]
 simp only [cond_false]
 refine ⟨x.v,by unfold AH.ak;rw [ag];rfl,?_⟩
 rw [wrap_i64 (by omega) (by omega)]
 obtain ⟨H1,g1,g2⟩:=fin 4 [.int .i64 (x.v+1)] { L[i] with c:=x.v+1 } (by simp) rfl rfl (by unfold eJ;rw [if_neg h1,if_neg h2,if_neg h3,if_neg h4])
 exact ⟨by trivial,H1,g1,g2⟩
theorem E5 (H:AH) (k:Nat) (hk:k≤5000):cK Tryd.prog H 50 (.int .i64 k) (.int .i64 k)=some (.slice (some (H.n,0)) k k,H.alloc (.cells (flat aj.cells ((List.range k).map fun _=>aH)) 53 {})):=by
 unfold cK
 have t1:Tryd.prog.underlying 50=some (.slice 53):=by kernel_rfl
 have t2:bX Tryd.prog 53=some 5:=by kernel_rfl
 obtain ⟨mT,t3,Gp⟩ : ∃mT,vj Tryd.prog 53=some mT∧mT≤100:=⟨16,by kernel_rfl,by decide⟩
 have t4:zeroOf Tryd.prog 53=some (.agg aH.cells):=by kernel_rfl
 simp only [t1,t2,t3,t4]
 have hb:mT*k≤100*5000:=Nat.mul_le_mul Gp hk
 have e : ∀m:Nat,cR aH.cells m=flat aj.cells ((List.range m).map fun _=>aH):=by
  intro m
  have e1:(List.range m).map (fun _=>aH)=List.replicate m aH:=by
   apply List.ext_getElem
   ·simp
   ·intro i h1 h2;simp
  rw [e1]
  induction m with
  | zero=>rfl
  | succ m ih=>rw [List.replicate_succ];show aH.cells ++ cR aH.cells m=aH.cells ++ flat aj.cells (List.replicate m aH);rw [ih (by
    apply List.ext_getElem
    ·simp
    ·intro i h1 h2;simp)]
 rw [if_pos]
 ·simp only [AV.cells,Int.toNat_natCast,e]
 ·refine ⟨by omega,by omega,?_,?_,rfl,by decide,rfl⟩ <;> omega
def cO (n:Nat) (F:Nat→aj):List aj:=(List.range n).map F
theorem lK (n:Nat) (F:Nat→aj):(cO n F).length=n:=by simp [cO]
theorem tA {n:Nat} {F:Nat→aj} {i:Nat} (h:i<(cO n F).length):(cO n F)[i]=F i:=by simp [cO]
theorem Ae {n:Nat} {F:Nat→aj} {i:Nat} (a:aj):(cO n F).set i a=cO n fun t=>if t=i then a else F t:=by
 apply List.ext_getElem
 ·simp [cO]
 ·intro j h1 h2
  simp only [cO,List.getElem_set,List.getElem_map,List.getElem_range]
  by_cases e:i=j
  ·rw [if_pos e,if_pos e.symm]
  ·rw [if_neg e,if_neg (fun h=>e (Eq.symm h))]
theorem m9 {n:Nat} {F G:Nat→aj} (h : ∀i,i<n→F i=G i):cO n F=cO n G:=List.map_congr_left fun i hi=>h i (List.mem_range.1 hi)
set_option maxRecDepth 100000 in
theorem GZ (s:List UInt8) (n:Nat) (hn:aD s n) (hs:s.length≤4096) {so:List ay} (hl:so.length≤256) (hf : ∀x ∈ so,dO x n=true) (hx : ∀x ∈ so,∀y ∈ so,bu x y=false) {H:AH} {q:Option Nat} {cp:Nat} (hq:iG H q cp so) :
  az Tryd.prog 68 [.agg [.str s,.slice (q.map fun b=>(b,0)) so.length cp]] H fun v H'=>∃b,v=.slice (some (b,0)) n n∧H'.get b=some (.cells (flat aj.cells (cO n fun i=>bt so (i:Int))) 53 {})∧H.n≤b∧b<H'.n∧∀c,c<H.n→H'.get c=H.get c:=by
 have Ct:n≤s.length:=by have:=dJ hn.2;have:=hn.1;omega
 refine .inl ⟨aB (by kernel_rfl),ck (aT:=_) (dY:=_) au (Eq.mpr (Ex (real Tryd.prog) (Iter Tryd.prog) s (q.map fun b=>(b,0)) so.length cp H _) ?_)⟩
 simp only [bL,bq,aY,bh,aJ,aL,cm,zM]
 obtain ⟨A,hA⟩ : ∃A,A=H.alloc (.cells [.str s,.slice (q.map fun b=>(b,0)) so.length cp] 26 { whole:=true }):=⟨_,rfl⟩
 rw [← hA]
 have ag:A.get H.n=some (.cells [.str s,.slice (q.map fun b=>(b,0)) so.length cp] 26 { whole:=true }):=by rw [hA,AH.aa,if_pos rfl]
 have ao : ∀c,c<H.n→A.get c=H.get c:=fun c hc=>by rw [hA,AH.aa,if_neg (by omega)]
 have an:A.n=H.n+1:=by rw [hA];rfl
 refine ⟨(by trivial),s,by unfold AH.ak;rw [ag];rfl,(oc s n hn (by omega)).dS ⟨n,rfl,_,_,_,_,E5 A n (by omega),?_⟩⟩
 obtain ⟨B,hB⟩ : ∃B,B=A.alloc (.cells (flat aj.cells (cO n fun _=>aH)) 53 {}):=⟨_,rfl⟩
 have ZY:A.alloc (.cells (flat aj.cells ((List.range n).map fun _=>aH)) 53 {})=B:=hB.symm
 rw [ZY]
 have bg:B.get (H.n+1)=some (.cells (flat aj.cells (cO n fun _=>aH)) 53 {}):=by rw [hB,AH.aa,if_pos an.symm]
 have bo : ∀c,c<H.n+1→B.get c=A.get c:=fun c hc=>by rw [hB,AH.aa,if_neg (by omega)]
 have bn:B.n=H.n+2:=by rw [hB];simp only [AH.aC];omega
 refine ⟨s,q.map fun b=>(b,0),so.length,cp,by unfold AH.read;rw [bo _ (by omega),ag];rfl,?_⟩
 refine (GY s (hq.gM (by omega) fun c hc=>by rw [bo c (by omega)];exact ao c hc) (by omega)).mono ?_
 rintro v C ⟨r,p,rfl,hr,hp,TZ,cn,co⟩
 refine ⟨r.map fun b=>(b,0),so.length,so.length,rfl,?_⟩
 obtain ⟨out,Cs⟩ : ∃out,out=nI so p:=⟨_,rfl⟩
 rw [← Cs] at hr
 have Ii:out.length=so.length:=by rw [Cs,gu]
 have kS : ∀x ∈ out,x ∈ so:=by
  intro x hx
  rw [Cs] at hx
  obtain ⟨j,hj,rfl⟩:=List.mem_map.1 hx
  obtain ⟨σ,τ,a1,a2,a3⟩:=hp
  have KR:=List.mem_range.1 hj
  have:p j<so.length:=by rw [a3 j KR];exact (a1 j KR).1
  rw [fB this]
  exact List.getElem_mem _
 obtain ⟨b,hb⟩ : ∃b,b=H.n+1:=⟨_,rfl⟩
 obtain ⟨G,hG⟩ : ∃G:(Nat→aj)→AH→Prop,G=fun F K=>K.get b=some (.cells (flat aj.cells (cO n F)) 53 {})∧fL K r out∧r ≠ some b∧b<K.n∧∀c,c<H.n→K.get c=H.get c:=⟨_,rfl⟩
 have Ue:r ≠ some b:=fun e=>by
  rw [e] at hr
  obtain ⟨fl,h1⟩:=hr.1
  rw [co _ (by omega),hb,bg] at h1
  have h2:=(aS.cells.inj (Option.some.inj h1)).2.1
  exact absurd h2 (by decide)
 have gC:G (fun _=>aH) C:=by
  rw [hG]
  exact ⟨by rw [hb,co _ (by omega)];exact bg,hr,Ue,by omega,fun c hc=>by rw [co c (by omega),bo c (by omega)];exact ao c hc⟩
 have DK : ∀ {F:Nat→aj} {K K2:AH},G F K→K.n≤K2.n→(∀c,c<K.n→K2.get c=K.get c)→G F K2:=by
  intro F K K2 h h1 h2
  rw [hG] at h ⊢
  obtain ⟨g1,g2,g3,g4,g5⟩:=h
  exact ⟨by rw [h2 _ g4];exact g1,g2.gM h1 h2,g3,by omega,fun c hc=>by rw [h2 c (by omega)];exact g5 c hc⟩
 refine ⟨fun y K k=>∃j:Nat,y=((some (b,0),n),(r.map (fun b=>(b,0)),so.length),(so.length:Int),(j:Int))∧j≤so.length∧G (fun t:Nat=>cZ aH (out.take j) (t:Int)) K∧k=so.length - j,
  ⟨((some (b,0),n),(r.map (fun b=>(b,0)),so.length),(so.length:Int),0),so.length,by rw [hb,an],0,rfl,Nat.zero_le _,gC,rfl⟩,?_⟩
 rintro _ K _ ⟨j,rfl,hj,hK,rfl⟩
 simp only
 by_cases Iq:j<so.length
 ·have d:decide ((j:Int)<(so.length:Int))=true:=by rw [decide_eq_true_iff];omega
  simp only [d,cond_true]
  have v9:=hK
  rw [hG] at v9
  obtain ⟨k1,k2,k3,k4,k5⟩:=v9
  obtain ⟨rb,rfl,kR⟩:=k2.span (fun _ _=>rfl) (i:=j) (by omega)
  obtain ⟨x,TR⟩ : ∃x,x=out[j]'(by omega):=⟨_,rfl⟩
  rw [← TR] at kR
  have rN:=hf x (kS x (by rw [TR];exact List.getElem_mem _))
  have Wr:0≤x.f∧x.f<x.t∧x.t≤n:=by
   unfold dO at rN
   cases hc:(decide (x.f<0) || decide (x.t > (n:Int)) || decide (x.f≥x.t) || decide (x.k<1) || decide (x.k > 5)) with
   | true=>rw [hc] at rN;cases rN
   | false=>simp only [Bool.or_eq_false_iff,decide_eq_false_iff_not] at hc;omega
  have Ju : -1000000000≤x.v∧x.v≤1000000000:=CI rN
  obtain ⟨D,hD⟩ : ∃D,D=(K.alloc (.cells [.int .i64 0,.int .i64 0,.int .i64 0,.int .i64 0] 41 { whole:=true })).set K.n (.cells x.cells 41 { whole:=true }):=⟨_,rfl⟩
  have dg:D.get K.n=some (.cells x.cells 41 { whole:=true }):=by rw [hD,AH.af,if_pos rfl]
  have Lq : ∀c,c<K.n→D.get c=K.get c:=fun c hc=>by rw [hD,AH.af,if_neg (by omega),AH.aa,if_neg (by omega)]
  have dn:D.n=K.n+1:=by rw [hD];simp
  obtain ⟨F,hF⟩ : ∃F:Nat→aj,F=fun t:Nat=>cZ aH (out.take j) (t:Int):=⟨_,rfl⟩
  rw [← hF] at hK
  have gD:G F D:=DK hK (by omega) Lq
  refine ⟨rb,0,⟨rfl,by omega,by omega⟩,_,_,_,_,kR,rfl,D,by rw [hD];simp [AH.write,AH.aa,ax,AV.one,ay.cells],x.f,by unfold AH.ak;rw [dg];rfl,?_⟩
  refine ⟨fun y K2 k=>∃i:Nat,y=(((some (b,0),n),(some (rb,0),so.length),(so.length:Int),(j:Int)),K.n,(i:Int))∧x.f≤i∧(i:Int)≤x.t∧G (fun t:Nat=>if x.f≤(t:Int)∧t<i then eJ (F t) x else F t) K2∧K2.get K.n=some (.cells x.cells 41 { whole:=true })∧K.n<K2.n∧k=(x.t - i).toNat,
   ⟨(((some (b,0),n),(some (rb,0),so.length),(so.length:Int),(j:Int)),K.n,x.f),(x.t - x.f).toNat,rfl,x.f.toNat,by rw [Int.toNat_of_nonneg Wr.1],by omega,by omega,?_,dg,by omega,by rw [Int.toNat_of_nonneg Wr.1]⟩,?_⟩
  ·have e:(fun t:Nat=>if x.f≤(t:Int)∧t<x.f.toNat then eJ (F t) x else F t)=F:=by
    funext t
    rw [if_neg (by omega)]
   rw [e];exact gD
  rintro _ K2 _ ⟨i,rfl,i1,i2,DI,Gf,Xi,rfl⟩
  simp only
  refine ⟨x.t,by unfold AH.ak;rw [Gf];rfl,?_⟩
  by_cases Sw:(i:Int)<x.t
  ·have d2:decide ((i:Int)<x.t)=true:=by rw [decide_eq_true_iff];exact Sw
   simp only [d2,cond_true]
   have Rj:=DI
   rw [hG] at Rj
   obtain ⟨m1,m2,m3,m4,m5⟩:=Rj
   have iX:i<n:=by omega
   refine ⟨b,0,⟨rfl,by omega,by omega⟩,x.f,x.t,x.k,x.v,by unfold AH.read;rw [Gf];rfl,?_⟩
   refine (Nh m1 rfl rfl m4 (i:=i) (by rw [lK];exact iX) x Ju).mono ?_
   rintro _ K3 ⟨n1,n2,n3⟩
   rw [tA,Ae,if_neg (by omega)] at n1
   refine ⟨(((some (b,0),n),(some (rb,0),so.length),(so.length:Int),(j:Int)),K.n,((i+1:Nat):Int)),(x.t - ((i+1:Nat):Int)).toNat,by omega,by rw [wrap_i64 (by omega) (by omega)];rfl,i+1,rfl,by omega,by omega,?_,by rw [n3 _ Xi (by omega)];exact Gf,by omega,rfl⟩
   rw [hG]
   refine ⟨?_,?_,m3,by omega,fun c hc=>by rw [n3 c (by omega) (by omega)];exact m5 c hc⟩
   ·rw [n1]
    congr 3
    refine m9 fun t _=>?_
    by_cases e:t=i
    ·rw [if_pos e,if_pos (by omega),e]
    ·rw [if_neg e]
     by_cases e2:x.f≤(t:Int)∧t<i
     ·rw [if_pos e2,if_pos (by omega)]
     ·rw [if_neg e2,if_neg (by omega)]
   ·obtain ⟨⟨fl,y1⟩,y2⟩:=m2
    have cU:rb ≠ b:=fun e=>m3 (by rw [e])
    refine ⟨⟨fl,by rw [n3 rb (y2 rb rfl) cU];exact y1⟩,fun c hc=>by have:=y2 c hc;omega⟩
  ·have d2:decide ((i:Int)<x.t)=false:=by rw [decide_eq_false_iff_not];exact Sw
   simp only [d2,cond_false]
   refine ⟨((some (b,0),n),(some (rb,0),so.length),(so.length:Int),((j+1:Nat):Int)),so.length - (j+1),by omega,by rw [wrap_i64 (by omega) (by omega)];rfl,j+1,rfl,by omega,?_,rfl⟩
   have e:(fun t:Nat=>cZ aH (out.take (j+1)) (t:Int))=fun t:Nat=>if x.f≤(t:Int)∧t<i then eJ (F t) x else F t:=by
    funext t
    rw [List.take_succ_eq_append_getElem (by omega),← TR,hF]
    unfold cZ
    rw [List.foldl_append,List.foldl_cons,List.foldl_nil]
    by_cases e2:x.f≤(t:Int)∧t<i
    ·rw [if_pos e2,nW.2 (by omega)];rfl
    ·rw [if_neg e2]
     have:aE x (t:Int)=false:=by
      cases hc:aE x (t:Int) with
      | false=>rfl
      | true=>rw [nW] at hc;omega
     rw [this];rfl
   rw [e];exact DI
 ·have d:decide ((j:Int)<(so.length:Int))=false:=by rw [decide_eq_false_iff_not];omega
  simp only [d,cond_false]
  rw [hG] at hK
  obtain ⟨k1,k2,k3,k4,k5⟩:=hK
  refine ⟨b,rfl,?_,by omega,k4,k5⟩
  rw [k1]
  congr 3
  refine m9 fun t _=>?_
  rw [List.take_of_length_le (by omega),Cs]
  exact GU hx hp TZ _
end Go.Proofs.YtlkdhhkncoekgaaDoor
