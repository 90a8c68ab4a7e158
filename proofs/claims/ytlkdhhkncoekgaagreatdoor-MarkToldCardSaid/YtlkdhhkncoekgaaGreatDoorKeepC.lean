/- How signs look, by style.looks; the signs and their looks, as style.Signs hands them out. -/
import Derived.Test.YtlkdhhkncoekgaaGreatDoorKeepB
namespace Go.Proofs.YtlkdhhkncoekgaaGreatDoor
open Go.Am Go
theorem NW {H:AH} {b:Nat} {fl:Fl} {L:List aj} (h:H.get b=some (.cells (flat aj.cells L) 63 fl)) (ho:fl.own=true) (hz:fl.fz=0) (hb:b<H.n) {i:Nat} (hi:i<L.length) (x:av) (hv : -1000000000≤x.v∧x.v≤1000000000) :
  aD Tryz.prog 103 [.ptr (some (b,0+i*5)),.agg x.cells] H fun _ H'=>H'.get b=some (.cells (flat aj.cells (L.set i (eO L[i] x))) 63 fl)∧H.n≤H'.n∧∀c,c<H.n→c ≠ b→H'.get c=H.get c:=by
 refine .inl ⟨aB (by kernel_rfl),c6 (aS:=[]) aq ?_⟩
 show fG _ _ _ _ [.ptr (some (b,0+i*5)),.agg [.int .i64 x.f,.int .i64 x.t,.int .i64 x.k,.int .i64 x.v]] _ _
 rw [KC]
 simp only [bu,aU,aQ,bU,aK]
 obtain ⟨A,hA⟩ : ∃A,A=H.alloc (.cells [.int .i64 x.f,.int .i64 x.t,.int .i64 x.k,.int .i64 x.v] 54 { whole:=true }):=⟨_,rfl⟩
 rw [← hA]
 have ag:A.get H.n=some (.cells [.int .i64 x.f,.int .i64 x.t,.int .i64 x.k,.int .i64 x.v] 54 { whole:=true }):=by rw [hA,AH.aa,if_pos rfl]
 have ao : ∀c,c<H.n→A.get c=H.get c:=fun c hc=>by rw [hA,AH.aa,if_neg (by omega)]
 have an:A.n=H.n+1:=by rw [hA];rfl
 have hAb:A.get b=_:=(ao b hb).trans h
 have fin : ∀(k:Nat) (vs:List AV) (y:aj),k+vs.length≤5→vs.all AV.one=true→aA (aj.cells L[i]) k vs=aj.cells y→eO L[i] x=y →
   ∃H1,A.write b (0+i*5+k) vs=some H1∧(H1.get b=some (.cells (flat aj.cells (L.set i (eO L[i] x))) 63 fl)∧H.n≤H1.n∧∀c,c<H.n→c ≠ b→H1.get c=H.get c):=by
  intro k vs y h1 h2 h3 h4
  refine ⟨_,kA aj.ay hAb ho hz hi h1 h2 h3,by rw [AH.af,if_pos rfl,h4],by simp only [AH.bq];omega,fun c hc dm=>by rw [AH.af,if_neg dm];exact ao c hc⟩
 refine ⟨(by trivial),x.k,by unfold AH.ak;rw [ag];rfl,?_⟩
 by_cases h1:x.k=1
 ·rw [beq_iff_eq.2 h1]
  obtain ⟨H1,g1,g2⟩:=fin 0 [.bool true] { L[i] with b:=true } (by decide) rfl rfl (by unfold eO;rw [if_pos h1])
  exact ⟨by trivial,H1,g1,g2⟩
 rw [beq_eq_false_iff_ne.2 h1]
 by_cases h2:x.k=2
 ·rw [beq_iff_eq.2 h2]
  obtain ⟨H1,g1,g2⟩:=fin 1 [.bool true] { L[i] with i:=true } (by decide) rfl rfl (by unfold eO;rw [if_neg h1,if_pos h2])
  exact ⟨by trivial,H1,g1,g2⟩
 rw [beq_eq_false_iff_ne.2 h2]
 by_cases h3:x.k=3
 ·rw [beq_iff_eq.2 h3]
  obtain ⟨H1,g1,g2⟩:=fin 2 [.bool true] { L[i] with u:=true } (by decide) rfl rfl (by unfold eO;rw [if_neg h1,if_neg h2,if_pos h3])
  exact ⟨by trivial,H1,g1,g2⟩
 rw [beq_eq_false_iff_ne.2 h3]
 by_cases h4:x.k=4
 ·rw [beq_iff_eq.2 h4]
  obtain ⟨H1,g1,g2⟩:=fin 3 [.bool true] { L[i] with k:=true } (by decide) rfl rfl (by unfold eO;rw [if_neg h1,if_neg h2,if_neg h3,if_pos h4])
  exact ⟨by trivial,H1,g1,g2⟩
 rw [beq_eq_false_iff_ne.2 h4]
 simp only [cond_false]
 refine ⟨x.v,by unfold AH.ak;rw [ag];rfl,?_⟩
 rw [wrap_i64 (by omega) (by omega)]
 obtain ⟨H1,g1,g2⟩:=fin 4 [.int .i64 (x.v+1)] { L[i] with c:=x.v+1 } (by simp) rfl rfl (by unfold eO;rw [if_neg h1,if_neg h2,if_neg h3,if_neg h4])
 exact ⟨by trivial,H1,g1,g2⟩
theorem FG (H:AH) (k:Nat) (hk:k≤5000):cP Tryz.prog H 83 (.int .i64 k) (.int .i64 k)=some (.slice (some (H.n,0)) k k,H.alloc (.cells (flat aj.cells ((List.range k).map fun _=>aI)) 63 {})):=by
 unfold cP
 have t1:Tryz.prog.underlying 83=some (.slice 63):=by kernel_rfl
 have t2:bY Tryz.prog 63=some 5:=by kernel_rfl
 obtain ⟨nA,t3,J8⟩ : ∃nA,ve Tryz.prog 63=some nA∧nA≤100:=⟨16,by kernel_rfl,by decide⟩
 have t4:zeroOf Tryz.prog 63=some (.agg aI.cells):=by kernel_rfl
 simp only [t1,t2,t3,t4]
 have hb:nA*k≤100*5000:=Nat.mul_le_mul J8 hk
 have e : ∀m:Nat,cJ aI.cells m=flat aj.cells ((List.range m).map fun _=>aI):=by
  intro m
  have e1:(List.range m).map (fun _=>aI)=List.replicate m aI:=by
   apply List.ext_getElem
   ·simp
   ·intro i h1 h2;simp
  rw [e1]
  induction m with
  | zero=>rfl
  | succ m ih=>rw [List.replicate_succ];show aI.cells ++ cJ aI.cells m=aI.cells ++ flat aj.cells (List.replicate m aI);rw [ih (by
    apply List.ext_getElem
    ·simp
    ·intro i h1 h2;simp)]
 rw [if_pos]
 ·simp only [AV.cells,Int.toNat_natCast,e]
 ·refine ⟨by omega,by omega,?_,?_,rfl,by decide,rfl⟩ <;> omega
def cU (n:Nat) (F:Nat→aj):List aj:=(List.range n).map F
theorem l9 (n:Nat) (F:Nat→aj):(cU n F).length=n:=by simp [cU]
theorem uh {n:Nat} {F:Nat→aj} {i:Nat} (h:i<(cU n F).length):(cU n F)[i]=F i:=by simp [cU]
theorem AS {n:Nat} {F:Nat→aj} {i:Nat} (a:aj):(cU n F).set i a=cU n fun t=>if t=i then a else F t:=by
 apply List.ext_getElem
 ·simp [cU]
 ·intro j h1 h2
  simp only [cU,List.getElem_set,List.getElem_map,List.getElem_range]
  by_cases e:i=j
  ·rw [if_pos e,if_pos e.symm]
  ·rw [if_neg e,if_neg (fun h=>e (Eq.symm h))]
theorem nM {n:Nat} {F G:Nat→aj} (h : ∀i,i<n→F i=G i):cU n F=cU n G:=List.map_congr_left fun i hi=>h i (List.mem_range.1 hi)
set_option maxRecDepth 100000 in
theorem HA (s:List UInt8) (n:Nat) (hn:aE s n) (hs:s.length≤4096) {so:List av} (hl:so.length≤256) (hf : ∀x ∈ so,dJ x n=true) (hx : ∀x ∈ so,∀y ∈ so,bA x y=false) {H:AH} {q:Option Nat} {cp:Nat} (hq:fE H q cp so) :
  aD Tryz.prog 60 [.agg [.str s,.slice (q.map fun b=>(b,0)) so.length cp]] H fun v H'=>∃b,v=.slice (some (b,0)) n n∧H'.get b=some (.cells (flat aj.cells (cU n fun i=>bw so (i:Int))) 63 {})∧H.n≤b∧b<H'.n∧∀c,c<H.n→H'.get c=H.get c:=by
 have C4:n≤s.length:=by have:=dr hn.2;have:=hn.1;omega
 refine .inl ⟨aB (by kernel_rfl),bP (aS:=_) (c9:=_) aq (Eq.mpr (E6 (real Tryz.prog) (Iter Tryz.prog) s (q.map fun b=>(b,0)) so.length cp H _) ?_)⟩
 simp only [bu,aU,aQ,aP,aF,aK,bU,tT]
 obtain ⟨A,hA⟩ : ∃A,A=H.alloc (.cells [.str s,.slice (q.map fun b=>(b,0)) so.length cp] 24 { whole:=true }):=⟨_,rfl⟩
 rw [← hA]
 have ag:A.get H.n=some (.cells [.str s,.slice (q.map fun b=>(b,0)) so.length cp] 24 { whole:=true }):=by rw [hA,AH.aa,if_pos rfl]
 have ao : ∀c,c<H.n→A.get c=H.get c:=fun c hc=>by rw [hA,AH.aa,if_neg (by omega)]
 have an:A.n=H.n+1:=by rw [hA];rfl
 refine ⟨(by trivial),s,by unfold AH.ak;rw [ag];rfl,(oI s n hn (by omega)).c7 ⟨n,rfl,_,_,_,_,FG A n (by omega),?_⟩⟩
 obtain ⟨B,hB⟩ : ∃B,B=A.alloc (.cells (flat aj.cells (cU n fun _=>aI)) 63 {}):=⟨_,rfl⟩
 have hB' : A.alloc (.cells (flat aj.cells ((List.range n).map fun _=>aI)) 63 {})=B:=hB.symm
 rw [hB']
 have bg:B.get (H.n+1)=some (.cells (flat aj.cells (cU n fun _=>aI)) 63 {}):=by rw [hB,AH.aa,if_pos an.symm]
 have bo : ∀c,c<H.n+1→B.get c=A.get c:=fun c hc=>by rw [hB,AH.aa,if_neg (by omega)]
 have bn:B.n=H.n+2:=by rw [hB];simp only [AH.az];omega
 refine ⟨s,q.map fun b=>(b,0),so.length,cp,by unfold AH.read;rw [bo _ (by omega),ag];rfl,?_⟩
 refine (Hz s (hq.eA (by omega) fun c hc=>by rw [bo c (by omega)];exact ao c hc) (by omega)).mono ?_
 rintro v C ⟨r,p,rfl,hr,hp,UO,cn,co⟩
 refine ⟨r.map fun b=>(b,0),so.length,so.length,rfl,?_⟩
 obtain ⟨out,sF⟩ : ∃out,out=oh so p:=⟨_,rfl⟩
 rw [← sF] at hr
 have GM:out.length=so.length:=by rw [sF,gI]
 have lE : ∀x ∈ out,x ∈ so:=by
  intro x hx
  rw [sF] at hx
  obtain ⟨j,hj,rfl⟩:=List.mem_map.1 hx
  obtain ⟨σ,τ,a1,a2,a3⟩:=hp
  have LK:=List.mem_range.1 hj
  have:p j<so.length:=by rw [a3 j LK];exact (a1 j LK).1
  rw [fI this]
  exact List.getElem_mem _
 obtain ⟨b,hb⟩ : ∃b,b=H.n+1:=⟨_,rfl⟩
 obtain ⟨G,hG⟩ : ∃G:(Nat→aj)→AH→Prop,G=fun F K=>K.get b=some (.cells (flat aj.cells (cU n F)) 63 {})∧ep K r out∧r ≠ some b∧b<K.n∧∀c,c<H.n→K.get c=H.get c:=⟨_,rfl⟩
 have UY:r ≠ some b:=fun e=>by
  rw [e] at hr
  obtain ⟨fl,h1⟩:=hr.1
  rw [co _ (by omega),hb,bg] at h1
  have h2:=(aY.cells.inj (Option.some.inj h1)).2.1
  exact absurd h2 (by decide)
 have gC:G (fun _=>aI) C:=by
  rw [hG]
  exact ⟨by rw [hb,co _ (by omega)];exact bg,hr,UY,by omega,fun c hc=>by rw [co c (by omega),bo c (by omega)];exact ao c hc⟩
 have pQ : ∀ {F:Nat→aj} {K K2:AH},G F K→K.n≤K2.n→(∀c,c<K.n→K2.get c=K.get c)→G F K2:=by
  intro F K K2 h h1 h2
  rw [hG] at h ⊢
  obtain ⟨g1,g2,g3,g4,g5⟩:=h
  exact ⟨by rw [h2 _ g4];exact g1,g2.eA h1 h2,g3,by omega,fun c hc=>by rw [h2 c (by omega)];exact g5 c hc⟩
 refine ⟨fun y K k=>∃j:Nat,y=((some (b,0),n),(r.map (fun b=>(b,0)),so.length),(so.length:Int),(j:Int))∧j≤so.length∧G (fun t:Nat=>c8 aI (out.take j) (t:Int)) K∧k=so.length - j,
  ⟨((some (b,0),n),(r.map (fun b=>(b,0)),so.length),(so.length:Int),0),so.length,by rw [hb,an],0,rfl,Nat.zero_le _,gC,rfl⟩,?_⟩
 rintro _ K _ ⟨j,rfl,hj,hK,rfl⟩
 simp only
 by_cases Nd:j<so.length
 ·have d:decide ((j:Int)<(so.length:Int))=true:=by rw [decide_eq_true_iff];omega
  simp only [d,cond_true]
  have wZ:=hK
  rw [hG] at wZ
  obtain ⟨k1,k2,k3,k4,k5⟩:=wZ
  obtain ⟨rb,rfl,iu⟩:=k2.span (fun _ _=>rfl) (i:=j) (by omega)
  obtain ⟨x,UF⟩ : ∃x,x=out[j]'(by omega):=⟨_,rfl⟩
  rw [← UF] at iu
  have sG:=hf x (lE x (by rw [UF];exact List.getElem_mem _))
  have Xm:0≤x.f∧x.f<x.t∧x.t≤n:=by
   unfold dJ at sG
   cases hc:(decide (x.f<0) || decide (x.t > (n:Int)) || decide (x.f≥x.t) || decide (x.k<1) || decide (x.k > 5)) with
   | true=>rw [hc] at sG;cases sG
   | false=>simp only [Bool.or_eq_false_iff,decide_eq_false_iff_not] at hc;omega
  have J4 : -1000000000≤x.v∧x.v≤1000000000:=ze sG
  obtain ⟨D,hD⟩ : ∃D,D=(K.alloc (.cells [.int .i64 0,.int .i64 0,.int .i64 0,.int .i64 0] 54 { whole:=true })).set K.n (.cells x.cells 54 { whole:=true }):=⟨_,rfl⟩
  have dg:D.get K.n=some (.cells x.cells 54 { whole:=true }):=by rw [hD,AH.af,if_pos rfl]
  have L8 : ∀c,c<K.n→D.get c=K.get c:=fun c hc=>by rw [hD,AH.af,if_neg (by omega),AH.aa,if_neg (by omega)]
  have dn:D.n=K.n+1:=by rw [hD];simp
  obtain ⟨F,hF⟩ : ∃F:Nat→aj,F=fun t:Nat=>c8 aI (out.take j) (t:Int):=⟨_,rfl⟩
  rw [← hF] at hK
  have gD:G F D:=pQ hK (by omega) L8
  refine ⟨rb,0,⟨rfl,by omega,by omega⟩,_,_,_,_,iu,rfl,D,by rw [hD];simp [AH.write,AH.aa,aA,AV.one,av.cells],x.f,by unfold AH.ak;rw [dg];rfl,?_⟩
  refine ⟨fun y K2 k=>∃i:Nat,y=(((some (b,0),n),(some (rb,0),so.length),(so.length:Int),(j:Int)),K.n,(i:Int))∧x.f≤i∧(i:Int)≤x.t∧G (fun t:Nat=>if x.f≤(t:Int)∧t<i then eO (F t) x else F t) K2∧K2.get K.n=some (.cells x.cells 54 { whole:=true })∧K.n<K2.n∧k=(x.t - i).toNat,
   ⟨(((some (b,0),n),(some (rb,0),so.length),(so.length:Int),(j:Int)),K.n,x.f),(x.t - x.f).toNat,rfl,x.f.toNat,by rw [Int.toNat_of_nonneg Xm.1],by omega,by omega,?_,dg,by omega,by rw [Int.toNat_of_nonneg Xm.1]⟩,?_⟩
  ·have e:(fun t:Nat=>if x.f≤(t:Int)∧t<x.f.toNat then eO (F t) x else F t)=F:=by
    funext t
    rw [if_neg (by omega)]
   rw [e];exact gD
  rintro _ K2 _ ⟨i,rfl,i1,i2,Nm,J5,X9,rfl⟩
  simp only
  refine ⟨x.t,by unfold AH.ak;rw [J5];rfl,?_⟩
  by_cases To:(i:Int)<x.t
  ·have d2:decide ((i:Int)<x.t)=true:=by rw [decide_eq_true_iff];exact To
   simp only [d2,cond_true]
   have Sa:=Nm
   rw [hG] at Sa
   obtain ⟨m1,m2,m3,m4,m5⟩:=Sa
   have fO:i<n:=by omega
   refine ⟨b,0,⟨rfl,by omega,by omega⟩,x.f,x.t,x.k,x.v,by unfold AH.read;rw [J5];rfl,?_⟩
   refine (NW m1 rfl rfl m4 (i:=i) (by rw [l9];exact fO) x J4).mono ?_
   rintro _ K3 ⟨n1,n2,n3⟩
   rw [uh,AS,if_neg (by omega)] at n1
   refine ⟨(((some (b,0),n),(some (rb,0),so.length),(so.length:Int),(j:Int)),K.n,((i+1:Nat):Int)),(x.t - ((i+1:Nat):Int)).toNat,by omega,by rw [wrap_i64 (by omega) (by omega)];rfl,i+1,rfl,by omega,by omega,?_,by rw [n3 _ X9 (by omega)];exact J5,by omega,rfl⟩
   rw [hG]
   refine ⟨?_,?_,m3,by omega,fun c hc=>by rw [n3 c (by omega) (by omega)];exact m5 c hc⟩
   ·rw [n1]
    congr 3
    refine nM fun t _=>?_
    by_cases e:t=i
    ·rw [if_pos e,if_pos (by omega),e]
    ·rw [if_neg e]
     by_cases e2:x.f≤(t:Int)∧t<i
     ·rw [if_pos e2,if_pos (by omega)]
     ·rw [if_neg e2,if_neg (by omega)]
   ·obtain ⟨⟨fl,y1⟩,y2⟩:=m2
    have dm:rb ≠ b:=fun e=>m3 (by rw [e])
    refine ⟨⟨fl,by rw [n3 rb (y2 rb rfl) dm];exact y1⟩,fun c hc=>by have:=y2 c hc;omega⟩
  ·have d2:decide ((i:Int)<x.t)=false:=by rw [decide_eq_false_iff_not];exact To
   simp only [d2,cond_false]
   refine ⟨((some (b,0),n),(some (rb,0),so.length),(so.length:Int),((j+1:Nat):Int)),so.length - (j+1),by omega,by rw [wrap_i64 (by omega) (by omega)];rfl,j+1,rfl,by omega,?_,rfl⟩
   have e:(fun t:Nat=>c8 aI (out.take (j+1)) (t:Int))=fun t:Nat=>if x.f≤(t:Int)∧t<i then eO (F t) x else F t:=by
    funext t
    rw [List.take_succ_eq_append_getElem (by omega),← UF,hF]
    unfold c8
    rw [List.foldl_append,List.foldl_cons,List.foldl_nil]
    by_cases e2:x.f≤(t:Int)∧t<i
    ·rw [if_pos e2,oB.2 (by omega)];rfl
    ·rw [if_neg e2]
     have:aG x (t:Int)=false:=by
      cases hc:aG x (t:Int) with
      | false=>rfl
      | true=>rw [oB] at hc;omega
     rw [this];rfl
   rw [e];exact Nm
 ·have d:decide ((j:Int)<(so.length:Int))=false:=by rw [decide_eq_false_iff_not];omega
  simp only [d,cond_false]
  rw [hG] at hK
  obtain ⟨k1,k2,k3,k4,k5⟩:=hK
  refine ⟨b,rfl,?_,by omega,k4,k5⟩
  rw [k1]
  congr 3
  refine nM fun t _=>?_
  rw [List.take_of_length_le (by omega),sF]
  exact Hv hx hp UO _
end Go.Proofs.YtlkdhhkncoekgaaGreatDoor
