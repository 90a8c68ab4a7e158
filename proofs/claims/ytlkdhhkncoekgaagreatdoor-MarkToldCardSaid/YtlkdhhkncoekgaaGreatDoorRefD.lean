/- A span laid into a row in order, by the reference's functions. -/
import Derived.Test.YtlkdhhkncoekgaaGreatDoorRefC
section
namespace Go.Proofs.YtlkdhhkncoekgaaGreatDoor
open Go.Am Go
theorem wA (a:aj) (k:Int) (h:1≤k∧k≤5):Pure Tryz.prog 109 [.agg a.cells,.int .i64 k] (.int .i64 (a.get k)):=by
 obtain ⟨b,i,u,g,c⟩:=a
 refine Pure.fB aq [] (by kernel_rfl) rfl (by simp [AV.bT]) ?_
 show fG _ _ _ _ [.agg [.bool b,.bool i,.bool u,.bool g,.int .i64 c],.int .i64 k] _ _
 rw [KT]
 by_cases h1:k=1
 ·subst h1;cases b <;> simp [AH.ak,AH.aa,aj.get,gJ]
 by_cases h2:k=2
 ·subst h2;cases i <;> simp [AH.ak,AH.aa,aj.get,gJ]
 by_cases h3:k=3
 ·subst h3;cases u <;> simp [AH.ak,AH.aa,aj.get,gJ]
 by_cases h4:k=4
 ·subst h4;cases g <;> simp [AH.ak,AH.aa,aj.get,gJ]
 obtain rfl:k=5:=by omega
 simp [AH.ak,AH.aa,aj.get]
theorem Az (x y:av):Pure Tryz.prog 133 [.agg x.cells,.agg y.cells] (.bool (nK x y)):=by
 refine Pure.fB aq [] (by kernel_rfl) (by simp [AV.cZ,AV.bT,av.cells]) rfl ?_
 show fG _ _ _ _ [.agg [.int .i64 x.f,.int .i64 x.t,.int .i64 x.k,.int .i64 x.v],.agg [.int .i64 y.f,.int .i64 y.t,.int .i64 y.k,.int .i64 y.v]] _ _
 rw [Ft]
 simp only [bu,aU,aQ]
 obtain ⟨A,hA⟩ : ∃A,A=((aL Tryz.prog).alloc (.cells [.int .i64 x.f,.int .i64 x.t,.int .i64 x.k,.int .i64 x.v] 54 { whole:=true })).alloc (.cells [.int .i64 y.f,.int .i64 y.t,.int .i64 y.k,.int .i64 y.v] 54 { whole:=true }):=⟨_,rfl⟩
 have an:((aL Tryz.prog).alloc (.cells [.int .i64 x.f,.int .i64 x.t,.int .i64 x.k,.int .i64 x.v] 54 { whole:=true })).n=(aL Tryz.prog).n+1:=rfl
 rw [← hA,an]
 have gx:A.get (aL Tryz.prog).n=some (.cells x.cells 54 { whole:=true }):=by rw [hA,AH.aa,if_neg (by simp only [AH.az];omega),AH.aa,if_pos rfl];rfl
 have gy:A.get ((aL Tryz.prog).n+1)=some (.cells y.cells 54 { whole:=true }):=by rw [hA,AH.aa,if_pos an.symm];rfl
 have x0:A.ak (aL Tryz.prog).n 0=some (.int .i64 x.f):=by unfold AH.ak;rw [gx];rfl
 have x1:A.ak (aL Tryz.prog).n 1=some (.int .i64 x.t):=by unfold AH.ak;rw [gx];rfl
 have x2:A.ak (aL Tryz.prog).n 2=some (.int .i64 x.k):=by unfold AH.ak;rw [gx];rfl
 have y0:A.ak ((aL Tryz.prog).n+1) 0=some (.int .i64 y.f):=by unfold AH.ak;rw [gy];rfl
 have y1:A.ak ((aL Tryz.prog).n+1) 1=some (.int .i64 y.t):=by unfold AH.ak;rw [gy];rfl
 have y2:A.ak ((aL Tryz.prog).n+1) 2=some (.int .i64 y.k):=by unfold AH.ak;rw [gy];rfl
 refine ⟨(by trivial),(by trivial),x.f,x0,y.f,y0,?_⟩
 unfold nK
 by_cases h1:x.f=y.f
 ·have e:(x.f != y.f)=false:=by rw [h1];simp
  simp only [e,cond_false]
  refine ⟨x.t,x1,y.t,y1,?_⟩
  have d:decide (x.f<y.f)=false:=by rw [decide_eq_false_iff_not];omega
  have b:(x.f == y.f)=true:=by rw [beq_iff_eq];exact h1
  rw [d,b,Bool.false_or,Bool.true_and]
  by_cases h2:x.t=y.t
  ·have e:(x.t != y.t)=false:=by rw [h2];simp
   simp only [e,cond_false]
   refine ⟨x.k,x2,y.k,y2,?_⟩
   have d:decide (y.t<x.t)=false:=by rw [decide_eq_false_iff_not];omega
   have b:(x.t == y.t)=true:=by rw [beq_iff_eq];exact h2
   rw [d,b,Bool.false_or,Bool.true_and]
  ·have e:(x.t != y.t)=true:=by rw [bne_iff_ne];exact h2
   simp only [e,cond_true]
   refine ⟨x.t,x1,y.t,y1,?_⟩
   have b:(x.t == y.t)=false:=beq_eq_false_iff_ne.2 h2
   rw [b,Bool.false_and,Bool.or_false]
 ·have e:(x.f != y.f)=true:=by rw [bne_iff_ne];exact h1
  simp only [e,cond_true]
  refine ⟨x.f,x0,y.f,y0,?_⟩
  have b:(x.f == y.f)=false:=beq_eq_false_iff_ne.2 h1
  rw [b,Bool.false_and,Bool.or_false]
theorem lg {H:AH} {q:Option Nat} {out part:List av} {y:AV} (hl:bQ H q out.length (flat av.cells out) 54) (hs:nY H 4 y=some (part.length,flat av.cells part)) (hm:out.length+part.length≤1000000) :
  ∃q' H',bV Tryz.prog H 22 22 (sl q out.length) y=some (sl q' (out ++ part).length,H')∧bQ H' q' (out ++ part).length (flat av.cells (out ++ part)) 54∧H.n≤H'.n∧(q'=q∨(q'=some H.n∧H'.n=H.n+1))∧∀c,c<H.n→q ≠ some c→H'.get c=H.get c:=by
 have t1:Tryz.prog.underlying 22=some (.slice 54):=by kernel_rfl
 have t2:bY Tryz.prog 54=some 4:=by kernel_rfl
 have t3:ve Tryz.prog 54=some 32:=by kernel_rfl
 have t4:zeroOf Tryz.prog 54=some (.agg [.int .i64 0,.int .i64 0,.int .i64 0,.int .i64 0]):=by kernel_rfl
 rcases Nat.eq_zero_or_pos part.length with h0 | h0
 ·have e:part=[]:=List.length_eq_zero_iff.1 h0
  subst e
  rw [List.append_nil]
  cases q with
  | none =>
   have e:out=[]:=List.length_eq_zero_iff.1 hl.1
   subst e
   refine ⟨none,H,?_,⟨rfl,rfl⟩,Nat.le_refl _,.inl rfl,fun c _ _=>rfl⟩
   unfold bV sl
   simp only [t1,t2,t3,t4,hs,Option.bind_some,Bool.false_eq_true,if_false,Option.map_none]
   rfl
  | some b =>
   have hb:H.get b=some (.cells (flat av.cells out) 54 { fD:=true }):=hl
   have hlen:(flat av.cells out).length=out.length*4:=bS av.ay out
   refine ⟨some b,H.set b (.cells (flat av.cells out) 54 { fD:=true }),?_,(by show (H.set b _).get b=_;rw [AH.af,if_pos rfl]),Nat.le_refl _,.inl rfl,fun c _ hq=>by rw [AH.af,if_neg (fun e=>hq (by rw [e]))]⟩
   unfold bV sl
   simp only [t1,t2,t3,t4,hs,Option.bind_some,Bool.false_eq_true,if_false,Option.map_some,List.length_nil,Nat.add_zero,Nat.le_refl,if_true]
   unfold AH.write
   simp only [hb]
   rw [if_pos ⟨(by trivial),Nat.zero_le _,by rw [hlen];simp [flat],by simp [flat]⟩]
   have e:aA (flat av.cells out) (0+out.length*4) (flat av.cells [])=flat av.cells out:=by
    unfold aA
    simp only [flat,List.length_nil,Nat.add_zero,Nat.zero_add]
    exact List.take_append_drop _ _
   rw [e];rfl
 ·have h:=mM (P:=Tryz.prog) (H:=H) (st:=22) (xt:=22) (e:=54) (xd:=.slice 54) (s:=4) (nA:=32) (m:=out.length) (n:=part.length) (q:=q) (old:=flat av.cells out) (new:=flat av.cells part) (y:=y) (z:=.agg [.int .i64 0,.int .i64 0,.int .i64 0,.int .i64 0])
   t1 t1 (fun k h=>by cases h) t2 t3 t4 rfl (by decide) hs (m8 av.dz part) h0 hl (bS av.ay out) (by omega)
  obtain ⟨H',a1,a2,a3,a4⟩:=h
  rw [← gO,← List.length_append] at a3
  rw [← List.length_append] at a1
  exact ⟨some H.n,H',a1,a3,by omega,.inr ⟨rfl,a2⟩,a4⟩
set_option maxRecDepth 100000 in
theorem N4 {l:List av} (ho:Ordered l) (hl:l.length≤100000) (x:av) {H:AH} {q:Option Nat} (hq:zF H q l) :
  aD Tryz.prog 110 [sl q l.length,.agg x.cells] H fun v H' =>
   ∃q',v=sl q' (gb l x).length∧bQ H' q' (gb l x).length (flat av.cells (gb l x)) 54∧(∀b,q'=some b→H.n≤b∧b<H'.n)∧H.n≤H'.n∧∀c,c<H.n→H'.get c=H.get c:=by
 obtain ⟨Q,hQ⟩ : ∃Q:AV→AH→Prop,Q=fun v H'=>∃q',v=sl q' (gb l x).length∧bQ H' q' (gb l x).length (flat av.cells (gb l x)) 54∧(∀b,q'=some b→H.n≤b∧b<H'.n)∧H.n≤H'.n∧∀c,c<H.n→H'.get c=H.get c:=⟨_,rfl⟩
 rw [← hQ]
 refine .inl ⟨aB (by kernel_rfl),bP (aS:=_) (c9:=_) aq (Eq.mpr (KR (real Tryz.prog) (Iter Tryz.prog) (q.map fun b=>(b,0)) l.length x.f x.t x.k x.v H Q) ?_)⟩
 simp only [bu,aU,aP,aF,aK,eR,jY]
 obtain ⟨A,hA⟩ : ∃A,A=H.alloc (.cells [.int .i64 x.f,.int .i64 x.t,.int .i64 x.k,.int .i64 x.v] 54 { whole:=true }):=⟨_,rfl⟩
 simp only [← hA]
 have ag:A.get H.n=some (.cells x.cells 54 { whole:=true }):=by rw [hA,AH.aa,if_pos rfl];rfl
 have ao : ∀c,c<H.n→A.get c=H.get c:=fun c hc=>by rw [hA,AH.aa,if_neg (by omega)]
 have an:A.n=H.n+1:=by rw [hA];rfl
 have rx : ∀ {K:AH},K.get H.n=A.get H.n→K.read H.n 0 4=some [.int .i64 x.f,.int .i64 x.t,.int .i64 x.k,.int .i64 x.v]:=fun {K} h=>by unfold AH.read;rw [h,ag];rfl
 have tt:(true == true)=true:=rfl
 have ff:(false == true)=false:=rfl
 obtain ⟨at_,PN⟩ : ∃at_,at_=iZ l x l.length:=⟨_,rfl⟩
 have Jd:at_≤l.length:=by rw [PN];exact xz l x _
 refine ⟨(by trivial),fun y K=>y=(H.n,(at_:Int))∧A=K,⟨fun y K k=>∃m:Nat,y=(H.n,(m:Int))∧m≤l.length∧iZ l x m=at_∧A=K∧k=m+1,⟨(H.n,(l.length:Int)),l.length+1,rfl,l.length,rfl,Nat.le_refl _,PN.symm,rfl,rfl⟩,?_⟩,?_⟩
 ·rintro _ _ _ ⟨m,rfl,hm,hb,rfl,rfl⟩
  simp only
  cases m with
  | zero =>
   have d:decide (((0:Nat):Int) > 0)=false:=by decide
   simp only [d,ff,cond_false]
   exact ⟨(H.n,((0:Nat):Int)),0,trivial,rfl,by rw [← hb];rfl,(by trivial)⟩
  | succ m =>
   have d:decide (((m+1:Nat):Int) > 0)=true:=by rw [decide_eq_true_iff];omega
   have w:IntKind.i64.wrap (((m+1:Nat):Int) - 1)=(m:Int):=by rw [wrap_i64 (by omega) (by omega)];omega
   simp only [d,tt,cond_true,w]
   obtain ⟨b,e,iu⟩:=hq.text.span ao (i:=m) (by omega)
   refine ⟨x.f,x.t,x.k,x.v,rx rfl,b,0,⟨by rw [e];rfl,by omega,by omega⟩,_,_,_,_,iu,?_⟩
   refine (Az x l[m]).c7 ⟨_,rfl,?_⟩
   have qE:l[m]? = some l[m]:=List.getElem?_eq_getElem (by omega)
   unfold iZ at hb
   rw [qE] at hb
   simp only at hb
   cases cu:nK x l[m] with
   | true =>
    rw [cu] at hb
    simp only [cond_true] at hb ⊢
    exact ⟨(H.n,(m:Int)),m+1,by omega,rfl,m,rfl,by omega,hb,(by trivial),rfl⟩
   | false =>
    rw [cu] at hb
    simp only [cond_false] at hb ⊢
    exact ⟨(H.n,((m+1:Nat):Int)),0,trivial,rfl,by rw [← hb],(by trivial)⟩
 rintro _ _ ⟨rfl,rfl⟩
 simp only
 have t1:Tryz.prog.underlying 22=some (.slice 54):=by kernel_rfl
 have t2:bY Tryz.prog 54=some 4:=by kernel_rfl
 obtain ⟨y1,c1,GK,Rg⟩ : ∃(y1:Option (Nat×Nat)) (c1:Nat),bZ Tryz.prog A 22 (.slice (q.map fun b=>(b,0)) l.length l.length) none (some (.int .i64 (at_:Int))) none=some (.slice y1 at_ c1)∧nY A 4 (.slice y1 at_ c1)=some ((l.take at_).length,flat av.cells (l.take at_)):=by
  have ZB:(l.take at_).length=at_:=by rw [List.length_take];omega
  cases q with
  | none =>
   have e:l=[]:=List.length_eq_zero_iff.1 hq.1.1
   subst e
   have e0:at_=0:=by simpa using Jd
   subst e0
   refine ⟨none,0,?_,rfl⟩
   simp [bZ,t1,t2,eS]
  | some b =>
   have hb:A.get b=some (.cells (flat av.cells l) 54 { fD:=true }):=by rw [ao b (hq.2 b rfl)];exact hq.1
   refine ⟨some (b,0),l.length,?_,?_⟩
   ·unfold bZ
    simp only [t1,t2,eS,Option.bind_some,Option.map_some]
    rw [if_pos (Int.natCast_nonneg _),Int.toNat_natCast]
    simp only [Option.bind_some]
    rw [if_pos ⟨Nat.zero_le _,Jd,Nat.le_refl _,fun e=>by cases e⟩]
    simp
   ·have:=Bm av.ay (l:=l) (i:=0) (n:=at_) (by omega)
    simp only [Nat.zero_mul,List.drop_zero] at this
    simp only [nY,AH.read,hb,Nat.zero_add,List.drop_zero]
    rw [if_pos (by rw [bS av.ay];exact Nat.mul_le_mul_right 4 Jd),this,ZB]
    rfl
 obtain ⟨q1,H1,a1,a2,a3,a4,a5⟩:=lg (H:=A) (q:=none) (out:=[]) (part:=l.take at_) ⟨rfl,rfl⟩ Rg (by rw [List.length_take,List.length_nil];omega)
 rw [List.nil_append] at a1 a2
 have We : ∀b,q1=some b→A.n≤b∧b<H1.n:=fun b hb=>by
  rcases a4 with e | ⟨e,e'⟩
  ·rw [e] at hb;cases hb
  ·rw [e] at hb;cases hb;omega
 have o1 : ∀c,c<A.n→H1.get c=A.get c:=fun c hc=>a5 c hc (fun e=>by cases e)
 refine ⟨y1,at_,c1,GK,q1.map fun b=>(b,0),(l.take at_).length,(l.take at_).length,H1,a1,x.f,x.t,x.k,x.v,rx (o1 _ (by omega)),by decide,?_⟩
 obtain ⟨C,hC⟩ : ∃C,C=H1.alloc (.cells x.cells 54 { whole:=true }):=⟨_,rfl⟩
 have cg:C.get H1.n=some (.cells x.cells 54 { whole:=true }):=by rw [hC,AH.aa,if_pos rfl]
 have co : ∀c,c<H1.n→C.get c=H1.get c:=fun c hc=>by rw [hC,AH.aa,if_neg (by omega)]
 have cn:C.n=H1.n+1:=by rw [hC];rfl
 have Rf:nY C 4 (.slice (some (H1.n,0)) 1 1)=some ([x].length,flat av.cells [x]):=by
  simp only [nY,AH.read,cg,Bn]
  rw [if_pos (by rw [av.ay];omega)]
  simp only [List.drop_zero,Option.map_some,List.length_singleton]
  rw [List.take_of_length_le (by rw [av.ay];omega)]
 obtain ⟨q2,H2,b1,b2,b3,b4,b5⟩:=lg (H:=C) (q:=q1) (out:=l.take at_) (part:=[x]) (a2.same fun b hb=>co b (We b hb).2) Rf (by rw [List.length_take,List.length_singleton];omega)
 have Yo : ∀b,q2=some b→A.n≤b∧b<H2.n:=fun b hb=>by
  rcases b4 with e | ⟨e,e'⟩
  ·have:=We b (e ▸ hb);omega
  ·rw [e] at hb;cases hb;omega
 have o2 : ∀c,c<A.n→H2.get c=A.get c:=fun c hc=>by rw [b5 c (by omega) (fun e=>by have:=We c e;omega),co c (by omega)];exact o1 c hc
 obtain ⟨y3,k3,c3,US,Re⟩ : ∃(y3:Option (Nat×Nat)) (k3 c3:Nat),bZ Tryz.prog H2 22 (.slice (q.map fun b=>(b,0)) l.length l.length) (some (.int .i64 (at_:Int))) none none=some (.slice y3 k3 c3)∧nY H2 4 (.slice y3 k3 c3)=some ((l.drop at_).length,flat av.cells (l.drop at_)):=by
  cases q with
  | none =>
   have e:l=[]:=List.length_eq_zero_iff.1 hq.1.1
   subst e
   have e0:at_=0:=by simpa using Jd
   subst e0
   refine ⟨none,0,0,?_,rfl⟩
   simp [bZ,t1,t2,eS]
  | some b =>
   have VB:=hq.2 b rfl
   have hb:H2.get b=some (.cells (flat av.cells l) 54 { fD:=true }):=by rw [o2 b (by omega),ao b VB];exact hq.1
   have fU:H2.steps Tryz.prog b 4=true:=by unfold AH.steps;rw [hb];simp [t2]
   refine ⟨some (b,0+at_*4),l.length - at_,l.length - at_,?_,?_⟩
   ·unfold bZ
    simp only [t1,t2,eS,Option.bind_some,Option.map_some,fU,or_true,if_true]
    rw [if_pos (Int.natCast_nonneg _),Int.toNat_natCast]
    simp only [Option.bind_some]
    rw [if_pos ⟨Jd,Nat.le_refl _,Nat.le_refl _,fun e=>by cases e⟩]
   ·have h1:=Bm av.ay (l:=l) (i:=at_) (n:=l.length - at_) (by omega)
    have h2:(l.drop at_).take (l.length - at_)=l.drop at_:=List.take_of_length_le (by rw [List.length_drop];omega)
    rw [h2] at h1
    have h3:at_*4+(l.length - at_)*4=l.length*4:=by rw [← Nat.add_mul];congr 1;omega
    simp only [nY,AH.read,hb,Nat.zero_add]
    rw [if_pos (by rw [bS av.ay];omega),h1,List.length_drop]
    rfl
 obtain ⟨q3,H3,d1,d2,d3,d4,d5⟩:=lg (H:=H2) (q:=q2) (out:=l.take at_ ++ [x]) (part:=l.drop at_) b2 Re (by rw [List.length_append,List.length_take,List.length_drop,List.length_singleton];omega)
 have d4' : ∀b,q3=some b→A.n≤b∧b<H3.n:=fun b hb=>by
  rcases d4 with e | ⟨e,e'⟩
  ·have:=Yo b (e ▸ hb);omega
  ·rw [e] at hb;cases hb;omega
 have o3 : ∀c,c<A.n→H3.get c=A.get c:=fun c hc=>by rw [d5 c (by omega) (fun e=>by have:=Yo c e;omega)];exact o2 c hc
 have uF:l.take at_ ++ [x] ++ l.drop at_=gb l x:=by
  rw [← Lm ho,QH,← PN,List.append_assoc];rfl
 rw [uF] at d1 d2
 refine ⟨q2.map fun b=>(b,0),(l.take at_ ++ [x]).length,(l.take at_ ++ [x]).length,H2,by rw [hC] at b1;exact b1,y3,k3,c3,US,q3.map fun b=>(b,0),(gb l x).length,(gb l x).length,H3,d1,?_⟩
 rw [hQ]
 exact ⟨q3,rfl,d2,fun b hb=>by have:=d4' b hb;omega,by omega,fun c hc=>by rw [o3 c (by omega)];exact ao c hc⟩
end Go.Proofs.YtlkdhhkncoekgaaGreatDoor
end
