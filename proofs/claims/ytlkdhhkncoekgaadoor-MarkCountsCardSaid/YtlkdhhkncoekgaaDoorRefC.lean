/- How the signs of a text look, by the reference's functions. -/
import Derived.Test.YtlkdhhkncoekgaaDoorRefB
section
namespace Go.Proofs.YtlkdhhkncoekgaaDoor
open Go.Am Go
theorem Pg (i:Nat) (h:i≤1000000000):IntKind.i64.wrap ((i:Int)+1)=((i+1:Nat):Int):=by rw [wrap_i64 (by omega) (by omega)];omega
set_option maxRecDepth 100000 in
theorem Hp (s:List UInt8) {so:List ay} (hl:so.length≤1000000) (hv : ∀x ∈ so,-1000000000≤x.v∧x.v≤1000000000) {H:AH} {q:Option Nat} {cp:Nat} (hq:iG H q cp so) (n:Int) :
  az Tryd.prog 42 [.agg [.str s,.slice (q.map fun b=>(b,0)) so.length cp],.int .i64 n] H fun v H'=>v=.agg (bt so n).cells∧H.n≤H'.n∧∀c,c<H.n→H'.get c=H.get c:=by
 obtain ⟨Q,hQ⟩ : ∃Q:AV→AH→Prop,Q=fun v H'=>v=.agg (bt so n).cells∧H.n≤H'.n∧∀c,c<H.n→H'.get c=H.get c:=⟨_,rfl⟩
 rw [← hQ]
 refine .inl ⟨aB (by kernel_rfl),ck (aT:=_) (dY:=_) au (Eq.mpr (EL (real Tryd.prog) (Iter Tryd.prog) s (q.map fun b=>(b,0)) so.length cp n H Q) ?_)⟩
 simp only [bL,bq,aY,bh,aJ,cm,aL,AH.aC]
 obtain ⟨A0,MI⟩ : ∃A,A=(((H.alloc (.cells [.str s,.slice (q.map fun b=>(b,0)) so.length cp] 26 { whole:=true })).alloc (.cells [.bool false,.bool false,.bool false,.bool false,.int .i64 0] 53 { whole:=true })).alloc (.cells [.bool false,.bool false,.bool false,.bool false,.int .i64 0] 53 { whole:=true })):=⟨_,rfl⟩
 simp only [← MI]
 obtain ⟨A,hA⟩ : ∃A,A=A0.set (H.n+2) (.cells aH.cells 53 { whole:=true }):=⟨_,rfl⟩
 obtain ⟨G,hG⟩ : ∃G:aj→AH→Prop,G=fun a K=>H.n+2<K.n∧K.get H.n=some (.cells [.str s,.slice (q.map fun b=>(b,0)) so.length cp] 26 { whole:=true })∧K.get (H.n+1)=some (.cells aH.cells 53 { whole:=true })∧K.get (H.n+2)=some (.cells a.cells 53 { whole:=true })∧∀c,c<H.n→K.get c=H.get c:=⟨_,rfl⟩
 have g2:A0.get (H.n+2)=some (.cells aH.cells 53 { whole:=true }):=by rw [MI,AH.aa,if_pos (by simp)];rfl
 have gA:G aH A:=by
  rw [hG,hA]
  refine ⟨by rw [MI];simp,?_,?_,by rw [AH.af,if_pos rfl],fun c hc=>?_⟩
  ·rw [AH.af,if_neg (by omega),MI,AH.aa,if_neg (by simp only [AH.aC];omega),AH.aa,if_neg (by simp only [AH.aC];omega),AH.aa,if_pos rfl]
  ·rw [AH.af,if_neg (by omega),MI,AH.aa,if_neg (by simp only [AH.aC];omega),AH.aa,if_pos (by simp)];rfl
  ·rw [AH.af,if_neg (by omega),MI,AH.aa,if_neg (by simp only [AH.aC];omega),AH.aa,if_neg (by simp only [AH.aC];omega),AH.aa,if_neg (by omega)]
 have r1 : ∀ {a K},G a K→K.ak H.n 1=some (.slice (q.map fun b=>(b,0)) so.length cp):=fun {a K} h=>by rw [hG] at h;unfold AH.ak;rw [h.2.1];rfl
 have old : ∀ {a K},G a K→∀c,c<H.n→K.get c=H.get c:=fun {a K} h=>by rw [hG] at h;exact h.2.2.2.2
 have gw : ∀ {a a' : aj} {K:AH} {i:Nat} {v:AV},G a K→i<5→AV.one v=true→ax a.cells i [v]=a'.cells→∃K',K.write (H.n+2) i [v]=some K'∧G a' K'∧K'.n=K.n∧∀c,c ≠ H.n+2→K'.get c=K.get c:=fun {a a' K i v} hK hi hv nR=>by
  rw [hG] at hK
  refine ⟨K.set (H.n+2) (.cells a'.cells 53 { whole:=true }),?_,?_,rfl,fun c hc=>by rw [AH.af,if_neg hc]⟩
  ·unfold AH.write
   rw [hK.2.2.2.1]
   simp only
   rw [if_pos ⟨trivial,Nat.zero_le _,by rw [aj.aG];simp only [List.length_cons,List.length_nil];omega,by simp [hv]⟩,nR]
  ·rw [hG]
   exact ⟨hK.1,by rw [AH.af,if_neg (by omega)];exact hK.2.1,by rw [AH.af,if_neg (by omega)];exact hK.2.2.1,by rw [AH.af,if_pos rfl],fun c hc=>by rw [AH.af,if_neg (by omega)];exact hK.2.2.2.2 c hc⟩
 have gk : ∀ {a K K'},G a K→K.n≤K'.n→(∀b,b<K.n→K'.get b=K.get b)→G a K':=fun {a K K'} hK h1 h2=>by
  rw [hG] at hK ⊢
  exact ⟨by omega,by rw [h2 _ (by omega)];exact hK.2.1,by rw [h2 _ (by omega)];exact hK.2.2.1,by rw [h2 _ (by omega)];exact hK.2.2.2.1,fun c hc=>by rw [h2 c (by omega)];exact hK.2.2.2.2 c hc⟩
 obtain ⟨I,hI⟩ : ∃I:Option ay→Int→Nat→Prop,I=fun o kY m=>(o=none∧kY = -1)∨∃(j:Nat) (hj:j<so.length),j<m∧kY=(j:Int)∧o=some so[j]:=⟨_,rfl⟩
 refine ⟨(by trivial),by decide,A,by rw [hA];unfold AH.write;rw [g2];simp [ax,AV.one,aH,aj.cells],fun y K k=>∃(m:Nat) (a:aj) (o:Option ay) (kY:Int),y=(H.n,H.n+1,H.n+2,kY,(m:Int))∧m≤so.length∧(so.take m).foldl (cL n) (aH,none)=(a,o)∧G a K∧I o kY m∧k=so.length - m,
  ⟨(H.n,H.n+1,H.n+2,-1,0),so.length,rfl,0,aH,none,-1,rfl,Nat.zero_le _,rfl,gA,by rw [hI];exact .inl ⟨rfl,rfl⟩,rfl⟩,?_⟩
 rintro _ K _ ⟨m,a,o,kY,rfl,hm,Is,hK,iX,rfl⟩
 simp only
 refine ⟨_,_,_,r1 hK,?_⟩
 by_cases At:m<so.length
 ·have d:decide ((m:Int)<(so.length:Int))=true:=by rw [decide_eq_true_iff];omega
  simp only [d,cond_true]
  obtain ⟨x,hx⟩ : ∃x,x=so[m]:=⟨_,rfl⟩
  have Ju:=hv x (by rw [hx];exact List.getElem_mem At)
  have lT:(so.take (m+1)).foldl (cL n) (aH,none)=cL n (a,o) x:=by
   rw [List.take_succ_eq_append_getElem At,List.foldl_append,Is,hx];rfl
  obtain ⟨b,Gh,kR⟩:=hq.span (old hK) At
  obtain ⟨B,hB⟩ : ∃B,B=(K.alloc (.cells [.int .i64 0,.int .i64 0,.int .i64 0,.int .i64 0] 41 { whole:=true })).set K.n (.cells x.cells 41 { whole:=true }):=⟨_,rfl⟩
  have bg:B.get K.n=some (.cells x.cells 41 { whole:=true }):=by rw [hB,AH.af,if_pos rfl]
  have bn:B.n=K.n+1:=by rw [hB];rfl
  have bo : ∀c,c<K.n→B.get c=K.get c:=fun c hc=>by rw [hB,AH.af,if_neg (by omega),AH.aa,if_neg (by omega)]
  have gB:G a B:=gk hK (by omega) bo
  have Xi:H.n+2<K.n:=by rw [hG] at hK;exact hK.1
  have rb : ∀i:Nat,B.ak K.n i=x.cells[i]?:=fun i=>by unfold AH.ak;rw [bg]
  refine ⟨fun y K'=>∃(a' : aj) (o' : Option ay) (HW:Int),y=(H.n,H.n+1,H.n+2,HW,(m:Int))∧cL n (a,o) x=(a',o')∧G a' K'∧I o' HW (m+1),⟨_,_,_,r1 hK,b,0,⟨by rw [Gh];rfl,by omega,by omega⟩,x.f,x.t,x.k,x.v,by rw [hx];exact kR,rfl,B,by rw [hB];simp [AH.write,AH.aa,ax,AV.one,ay.cells],x.f,by rw [rb];rfl,x.t,by rw [rb];rfl,?_⟩,?_⟩
  ·have UM:(decide (n<x.f) || decide (n≥x.t)) = !aE x n:=by
    unfold aE
    rw [Bool.not_and]
    congr 1
    ·rw [← decide_not,decide_eq_decide];omega
    ·rw [← decide_not,decide_eq_decide];omega
   have wO:I o kY (m+1):=by
    rw [hI] at iX ⊢
    rcases iX with h | ⟨j,hj,h1,h2⟩
    ·exact .inl h
    ·exact .inr ⟨j,hj,by omega,h2⟩
   rw [UM]
   unfold cL
   cases hc:aE x n with
   | false =>
    simp only [Bool.not_false,cond_true,cond_false]
    exact ⟨(H.n,H.n+1,H.n+2,kY,(m:Int)),0,trivial,rfl,a,o,kY,rfl,rfl,gB,wO⟩
   | true =>
    simp only [Bool.not_true,cond_false,cond_true]
    refine ⟨x.k,by rw [rb];rfl,?_⟩
    by_cases h1:x.k=1
    ·have e:(x.k == 1)=true:=by rw [h1];rfl
     have ic:iI x=false:=by unfold iI;rw [e];rfl
     simp only [e,ic,cond_true,cond_false]
     obtain ⟨K',w1,w2,_⟩:=gw (a':={ a with b:=true }) gB (i:=0) (by decide) (v:=.bool true) rfl (by simp [ax,aj.cells])
     exact ⟨(by trivial),K',w1,(H.n,H.n+1,H.n+2,kY,(m:Int)),0,trivial,rfl,_,o,kY,rfl,by unfold eJ;rw [if_pos h1],w2,wO⟩
    have e1:(x.k == 1)=false:=beq_eq_false_iff_ne.2 h1
    simp only [e1,cond_false]
    by_cases h2:x.k=2
    ·have e:(x.k == 2)=true:=by rw [h2];rfl
     have ic:iI x=false:=by unfold iI;rw [e];simp
     simp only [e,ic,cond_true,cond_false]
     obtain ⟨K',w1,w2,_⟩:=gw (a':={ a with i:=true }) gB (i:=1) (by decide) (v:=.bool true) rfl (by simp [ax,aj.cells])
     exact ⟨(by trivial),K',w1,(H.n,H.n+1,H.n+2,kY,(m:Int)),0,trivial,rfl,_,o,kY,rfl,by unfold eJ;rw [if_neg h1,if_pos h2],w2,wO⟩
    have e2:(x.k == 2)=false:=beq_eq_false_iff_ne.2 h2
    simp only [e2,cond_false]
    by_cases h3:x.k=3
    ·have e:(x.k == 3)=true:=by rw [h3];rfl
     have ic:iI x=false:=by unfold iI;rw [e];simp
     simp only [e,ic,cond_true,cond_false]
     obtain ⟨K',w1,w2,_⟩:=gw (a':={ a with u:=true }) gB (i:=2) (by decide) (v:=.bool true) rfl (by simp [ax,aj.cells])
     exact ⟨(by trivial),K',w1,(H.n,H.n+1,H.n+2,kY,(m:Int)),0,trivial,rfl,_,o,kY,rfl,by unfold eJ;rw [if_neg h1,if_neg h2,if_pos h3],w2,wO⟩
    have e3:(x.k == 3)=false:=beq_eq_false_iff_ne.2 h3
    simp only [e3,cond_false]
    by_cases h4:x.k=4
    ·have e:(x.k == 4)=true:=by rw [h4];rfl
     have ic:iI x=false:=by unfold iI;rw [e];simp
     simp only [e,ic,cond_true,cond_false]
     obtain ⟨K',w1,w2,_⟩:=gw (a':={ a with k:=true }) gB (i:=3) (by decide) (v:=.bool true) rfl (by simp [ax,aj.cells])
     exact ⟨(by trivial),K',w1,(H.n,H.n+1,H.n+2,kY,(m:Int)),0,trivial,rfl,_,o,kY,rfl,by unfold eJ;rw [if_neg h1,if_neg h2,if_neg h3,if_pos h4],w2,wO⟩
    have e4:(x.k == 4)=false:=beq_eq_false_iff_ne.2 h4
    have ic:iI x=true:=by unfold iI;rw [e1,e2,e3,e4];rfl
    simp only [e4,ic,cond_true,cond_false]
    have ft:(false == false)=true:=rfl
    have tf:(true == false)=false:=rfl
    obtain ⟨T,hT⟩ : ∃T:Bool,T=match o with
     | none=>true
     | some y=>bw x y:=⟨_,rfl⟩
    have UN:mM x (a,o)=bif T then ({ a with c:=x.v+1 },some x) else (a,o):=by
     rw [hT];unfold mM
     cases o <;> rfl
    rw [UN]
    refine ⟨fun y K'=>y=((H.n,H.n+1,H.n+2,kY,(m:Int)),K.n,T)∧B=K',?_,?_⟩
    ·rw [hI] at iX
     rcases iX with ⟨rfl,rfl⟩ | ⟨j,hj,QL,rfl,rfl⟩
     ·have d:decide ((-1:Int)<0)=true:=by decide
      simp only [d,tf,cond_false]
      exact ⟨((H.n,H.n+1,H.n+2,-1,(m:Int)),K.n,true),0,trivial,rfl,by rw [hT],(by trivial)⟩
     ·have d:decide ((j:Int)<0)=false:=by rw [decide_eq_false_iff_not];omega
      simp only [d,ft,cond_true]
      obtain ⟨b',e',Ig⟩:=hq.span (old gB) hj
      refine ⟨x.f,x.t,x.k,x.v,by unfold AH.read;rw [bg];rfl,_,_,_,r1 gB,b',0,⟨by rw [e'];rfl,by omega,by omega⟩,_,_,_,_,Ig,?_⟩
      refine (j5 x so[j]).dS ⟨_,rfl,((H.n,H.n+1,H.n+2,(j:Int),(m:Int)),K.n,bw x so[j]),0,trivial,rfl,?_,rfl⟩
      rw [hT]
    ·rintro _ _ ⟨rfl,rfl⟩
     simp only
     have Vq:I (some x) (m:Int) (m+1):=by
      rw [hI];exact .inr ⟨m,At,by omega,rfl,by rw [hx]⟩
     cases T with
     | true =>
      simp only [cond_true]
      have w1:IntKind.i64.wrap (x.v+1)=x.v+1:=wrap_i64 (by omega) (by omega)
      obtain ⟨K',w2,w3,_⟩:=gw (a':={ a with c:=x.v+1 }) gB (i:=4) (by decide) (v:=.int .i64 (x.v+1)) rfl (by simp [ax,aj.cells])
      exact ⟨x.v,by rw [rb];rfl,rfl,K',by rw [w1];exact w2,(H.n,H.n+1,H.n+2,(m:Int),(m:Int)),0,trivial,rfl,_,_,(m:Int),rfl,rfl,w3,Vq⟩
     | false =>
      simp only [cond_false]
      exact ⟨(H.n,H.n+1,H.n+2,kY,(m:Int)),0,trivial,rfl,a,o,kY,rfl,rfl,gB,wO⟩
  ·rintro _ K' ⟨a',o',HW,rfl,eF,v9,U5⟩
   simp only
   exact ⟨(H.n,H.n+1,H.n+2,HW,((m+1:Nat):Int)),so.length - (m+1),by omega,by rw [Pg m (by omega)],m+1,a',o',HW,rfl,by omega,by rw [lT,eF],v9,U5,rfl⟩
 ·obtain rfl:m=so.length:=by omega
  have d:decide ((so.length:Int)<(so.length:Int))=false:=by rw [decide_eq_false_iff_not];omega
  simp only [d,cond_false]
  rw [List.take_length] at Is
  have ea:bt so n=a:=by unfold bt;rw [Is]
  rw [hG] at hK
  refine ⟨a.b,a.i,a.u,a.k,a.c,by unfold AH.read;rw [hK.2.2.2.1];rfl,rfl,K.set (H.n+1) (.cells a.cells 53 { whole:=true }),?_,a.b,a.i,a.u,a.k,a.c,?_,?_⟩
  ·unfold AH.write
   rw [hK.2.2.1]
   simp [ax,AV.one,aj.cells,aH]
  ·simp [AH.read,AH.af,aj.cells]
  ·rw [hQ,ea]
   exact ⟨rfl,by show H.n≤K.n;omega,fun c hc=>by rw [AH.af,if_neg (by omega)];exact hK.2.2.2.2 c hc⟩
set_option maxRecDepth 100000 in
theorem Ht (s:List UInt8) (n:Nat) (hn:aD s n) (hs:s.length≤4096) {so:List ay} (hl:so.length≤1000000) (hv : ∀x ∈ so,-1000000000≤x.v∧x.v≤1000000000) {H:AH} {q:Option Nat} {cp:Nat} (hq:iG H q cp so) :
  az Tryd.prog 21 [.agg [.str s,.slice (q.map fun b=>(b,0)) so.length cp]] H fun v H' =>
   ∃q',v=sl q' n∧bI H' q' n (flat aj.cells ((List.range n).map fun i:Nat=>bt so (i:Int))) 53∧(∀b,q'=some b→H.n≤b∧b<H'.n)∧H.n≤H'.n∧∀c,c<H.n→H'.get c=H.get c:=by
 have Ct:n≤s.length:=by have:=dJ hn.2;have:=hn.1;omega
 refine .inl ⟨aB (by kernel_rfl),ck (aT:=_) (dY:=_) au (Eq.mpr (Kb (real Tryd.prog) (Iter Tryd.prog) s (q.map fun b=>(b,0)) so.length cp H _) ?_)⟩
 simp only [bL,bq,aY,bh,aJ,aL,fD]
 obtain ⟨A,hA⟩ : ∃A,A=H.alloc (.cells [.str s,.slice (q.map fun b=>(b,0)) so.length cp] 26 { whole:=true }):=⟨_,rfl⟩
 rw [← hA]
 obtain ⟨G,hG⟩ : ∃G:AH→Prop,G=fun K=>K.get H.n=some (.cells [.str s,.slice (q.map fun b=>(b,0)) so.length cp] 26 { whole:=true })∧H.n<K.n∧∀c,c<H.n→K.get c=H.get c:=⟨_,rfl⟩
 have gA:G A:=by
  rw [hG,hA];exact ⟨by rw [AH.aa,if_pos rfl],by simp,fun c hc=>by rw [AH.aa,if_neg (by omega)]⟩
 have gk : ∀ {K K'},G K→K.n≤K'.n→(∀b,b≤H.n→K'.get b=K.get b)→G K':=fun {K K'} hK h1 h2=>by
  rw [hG] at hK ⊢
  exact ⟨by rw [h2 _ (Nat.le_refl _)];exact hK.1,by omega,fun c hc=>by rw [h2 c (by omega)];exact hK.2.2 c hc⟩
 obtain ⟨L,hL⟩ : ∃L:Nat→List aj,L=fun m=>(List.range m).map fun i:Nat=>bt so (i:Int):=⟨_,rfl⟩
 have SJ : ∀m,(L m).length=m:=fun m=>by rw [hL];simp
 have ZL : ∀m,L (m+1)=L m ++ [bt so (m:Int)]:=fun m=>by rw [hL];simp [List.range_succ]
 have ZM:(List.range n).map (fun i:Nat=>bt so (i:Int))=L n:=by rw [hL]
 rw [ZM]
 have Xq:=gA
 rw [hG] at Xq
 refine ⟨(by trivial),s,by unfold AH.ak;rw [Xq.1];rfl,(zQ s n hn (by omega) A).mono ?_⟩
 rintro v B ⟨rfl,bn,bo⟩
 have gB:G B:=gk gA bn fun b hb=>bo b (by omega)
 refine ⟨n,rfl,fun y K k=>∃(m:Nat) (q' : Option Nat),y=(H.n,(n:Int),(q'.map (fun b=>(b,0)),m),(m:Int))∧m≤n∧G K∧bI K q' m (flat aj.cells (L m)) 53∧(∀b,q'=some b→H.n<b∧b<K.n)∧k=n - m,
  ⟨(H.n,(n:Int),(none,0),0),n,rfl,0,none,rfl,Nat.zero_le _,gB,⟨rfl,by rw [hL];rfl⟩,(fun b h=>by cases h),rfl⟩,?_⟩
 rintro _ K _ ⟨m,q',rfl,hm,hK,Mw,va,rfl⟩
 simp only
 have v9:=hK
 rw [hG] at v9
 obtain ⟨k1,k2,k3⟩:=v9
 by_cases At:m<n
 ·have d:decide ((m:Int)<(n:Int))=true:=by rw [decide_eq_true_iff];omega
  simp only [d,cond_true]
  refine ⟨s,_,_,_,by unfold AH.read;rw [k1];rfl,?_⟩
  refine (Hp s hl hv (hq.gM (by omega) k3) (m:Int)).mono ?_
  rintro v K1 ⟨rfl,n1,o1⟩
  obtain ⟨a,ha⟩ : ∃a,a=bt so (m:Int):=⟨_,rfl⟩
  rw [← ha]
  obtain ⟨C,hC⟩ : ∃C,C=K1.alloc (.cells a.cells 53 { whole:=true }):=⟨_,rfl⟩
  have cg:C.get K1.n=some (.cells a.cells 53 { whole:=true }):=by rw [hC,AH.aa,if_pos rfl]
  have co : ∀c,c<K1.n→C.get c=K1.get c:=fun c hc=>by rw [hC,AH.aa,if_neg (by omega)]
  have cn:C.n=K1.n+1:=by rw [hC];rfl
  have NX:bI C q' (L m).length (flat aj.cells (L m)) 53:=by
   rw [SJ]
   exact Mw.same fun b hb=>by have:=va b hb;rw [co b (by omega),o1 b (by omega)]
  obtain ⟨H5,a1,a2,a3,a4⟩:=ri (y:=a) NX cg (by rw [SJ];omega)
  rw [SJ] at a1
  have al:(L m ++ [a]).length=m+1:=by simp [SJ]
  rw [al] at a1 a3
  refine ⟨a.b,a.i,a.u,a.k,a.c,rfl,by decide,some (C.n,0),m+1,m+1,H5,?_,(H.n,(n:Int),(some (C.n,0),m+1),((m+1:Nat):Int)),n - (m+1),by omega,by rw [Pg m (by omega)],m+1,some C.n,rfl,by omega,?_,?_,?_,rfl⟩
  ·rw [hC] at a1 ⊢;exact a1
  ·refine gk hK (by omega) fun b hb=>?_
   rw [a4 _ (by omega) (fun e=>by have:=va _ e;omega),co _ (by omega),o1 _ (by omega)]
  ·rw [ZL,← ha];exact a3
  ·rintro b hb;cases hb;omega
 ·obtain rfl:m=n:=by omega
  have d:decide ((m:Int)<(m:Int))=false:=by rw [decide_eq_false_iff_not];omega
  simp only [d,cond_false]
  exact ⟨q',rfl,Mw,fun b hb=>by have:=va b hb;omega,by omega,k3⟩
end Go.Proofs.YtlkdhhkncoekgaaDoor
end
