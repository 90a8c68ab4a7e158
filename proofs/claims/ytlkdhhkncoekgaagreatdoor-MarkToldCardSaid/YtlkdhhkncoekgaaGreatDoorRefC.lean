/- How the signs of a text look, by the reference's functions. -/
import Derived.Test.YtlkdhhkncoekgaaGreatDoorRefB
section
namespace Go.Proofs.YtlkdhhkncoekgaaGreatDoor
open Go.Am Go
theorem EJ (i:Nat) (h:i≤1000000000):IntKind.i64.wrap ((i:Int)+1)=((i+1:Nat):Int):=by rw [wrap_i64 (by omega) (by omega)];omega
set_option maxRecDepth 100000 in
theorem HZ (s:List UInt8) {so:List av} (hl:so.length≤1000000) (hv : ∀x ∈ so,-1000000000≤x.v∧x.v≤1000000000) {H:AH} {q:Option Nat} {cp:Nat} (hq:fE H q cp so) (n:Int) :
  aD Tryz.prog 71 [.agg [.str s,.slice (q.map fun b=>(b,0)) so.length cp],.int .i64 n] H fun v H'=>v=.agg (bw so n).cells∧H.n≤H'.n∧∀c,c<H.n→H'.get c=H.get c:=by
 obtain ⟨Q,hQ⟩ : ∃Q:AV→AH→Prop,Q=fun v H'=>v=.agg (bw so n).cells∧H.n≤H'.n∧∀c,c<H.n→H'.get c=H.get c:=⟨_,rfl⟩
 rw [← hQ]
 refine .inl ⟨aB (by kernel_rfl),bP (aS:=_) (c9:=_) aq (Eq.mpr (Fp (real Tryz.prog) (Iter Tryz.prog) s (q.map fun b=>(b,0)) so.length cp n H Q) ?_)⟩
 simp only [bu,aU,aQ,aP,aF,bU,aK,AH.az]
 obtain ⟨A0,Nq⟩ : ∃A,A=(((H.alloc (.cells [.str s,.slice (q.map fun b=>(b,0)) so.length cp] 24 { whole:=true })).alloc (.cells [.bool false,.bool false,.bool false,.bool false,.int .i64 0] 63 { whole:=true })).alloc (.cells [.bool false,.bool false,.bool false,.bool false,.int .i64 0] 63 { whole:=true })):=⟨_,rfl⟩
 simp only [← Nq]
 obtain ⟨A,hA⟩ : ∃A,A=A0.set (H.n+2) (.cells aI.cells 63 { whole:=true }):=⟨_,rfl⟩
 obtain ⟨G,hG⟩ : ∃G:aj→AH→Prop,G=fun a K=>H.n+2<K.n∧K.get H.n=some (.cells [.str s,.slice (q.map fun b=>(b,0)) so.length cp] 24 { whole:=true })∧K.get (H.n+1)=some (.cells aI.cells 63 { whole:=true })∧K.get (H.n+2)=some (.cells a.cells 63 { whole:=true })∧∀c,c<H.n→K.get c=H.get c:=⟨_,rfl⟩
 have g2:A0.get (H.n+2)=some (.cells aI.cells 63 { whole:=true }):=by rw [Nq,AH.aa,if_pos (by simp)];rfl
 have gA:G aI A:=by
  rw [hG,hA]
  refine ⟨by rw [Nq];simp,?_,?_,by rw [AH.af,if_pos rfl],fun c hc=>?_⟩
  ·rw [AH.af,if_neg (by omega),Nq,AH.aa,if_neg (by simp only [AH.az];omega),AH.aa,if_neg (by simp only [AH.az];omega),AH.aa,if_pos rfl]
  ·rw [AH.af,if_neg (by omega),Nq,AH.aa,if_neg (by simp only [AH.az];omega),AH.aa,if_pos (by simp)];rfl
  ·rw [AH.af,if_neg (by omega),Nq,AH.aa,if_neg (by simp only [AH.az];omega),AH.aa,if_neg (by simp only [AH.az];omega),AH.aa,if_neg (by omega)]
 have r1 : ∀ {a K},G a K→K.ak H.n 1=some (.slice (q.map fun b=>(b,0)) so.length cp):=fun {a K} h=>by rw [hG] at h;unfold AH.ak;rw [h.2.1];rfl
 have old : ∀ {a K},G a K→∀c,c<H.n→K.get c=H.get c:=fun {a K} h=>by rw [hG] at h;exact h.2.2.2.2
 have gw : ∀ {a a' : aj} {K:AH} {i:Nat} {v:AV},G a K→i<5→AV.one v=true→aA a.cells i [v]=a'.cells→∃K',K.write (H.n+2) i [v]=some K'∧G a' K'∧K'.n=K.n∧∀c,c ≠ H.n+2→K'.get c=K.get c:=fun {a a' K i v} hK hi hv lA=>by
  rw [hG] at hK
  refine ⟨K.set (H.n+2) (.cells a'.cells 63 { whole:=true }),?_,?_,rfl,fun c hc=>by rw [AH.af,if_neg hc]⟩
  ·unfold AH.write
   rw [hK.2.2.2.1]
   simp only
   rw [if_pos ⟨trivial,Nat.zero_le _,by rw [aj.ay];simp only [List.length_cons,List.length_nil];omega,by simp [hv]⟩,lA]
  ·rw [hG]
   exact ⟨hK.1,by rw [AH.af,if_neg (by omega)];exact hK.2.1,by rw [AH.af,if_neg (by omega)];exact hK.2.2.1,by rw [AH.af,if_pos rfl],fun c hc=>by rw [AH.af,if_neg (by omega)];exact hK.2.2.2.2 c hc⟩
 have gk : ∀ {a K K'},G a K→K.n≤K'.n→(∀b,b<K.n→K'.get b=K.get b)→G a K':=fun {a K K'} hK h1 h2=>by
  rw [hG] at hK ⊢
  exact ⟨by omega,by rw [h2 _ (by omega)];exact hK.2.1,by rw [h2 _ (by omega)];exact hK.2.2.1,by rw [h2 _ (by omega)];exact hK.2.2.2.1,fun c hc=>by rw [h2 c (by omega)];exact hK.2.2.2.2 c hc⟩
 obtain ⟨I,hI⟩ : ∃I:Option av→Int→Nat→Prop,I=fun o lM m=>(o=none∧lM = -1)∨∃(j:Nat) (hj:j<so.length),j<m∧lM=(j:Int)∧o=some so[j]:=⟨_,rfl⟩
 refine ⟨(by trivial),by decide,A,by rw [hA];unfold AH.write;rw [g2];simp [aA,AV.one,aI,aj.cells],fun y K k=>∃(m:Nat) (a:aj) (o:Option av) (lM:Int),y=(H.n,H.n+1,H.n+2,lM,(m:Int))∧m≤so.length∧(so.take m).foldl (cQ n) (aI,none)=(a,o)∧G a K∧I o lM m∧k=so.length - m,
  ⟨(H.n,H.n+1,H.n+2,-1,0),so.length,rfl,0,aI,none,-1,rfl,Nat.zero_le _,rfl,gA,by rw [hI];exact .inl ⟨rfl,rfl⟩,rfl⟩,?_⟩
 rintro _ K _ ⟨m,a,o,lM,rfl,hm,I8,hK,fO,rfl⟩
 simp only
 refine ⟨_,_,_,r1 hK,?_⟩
 by_cases F1:m<so.length
 ·have d:decide ((m:Int)<(so.length:Int))=true:=by rw [decide_eq_true_iff];omega
  simp only [d,cond_true]
  obtain ⟨x,hx⟩ : ∃x,x=so[m]:=⟨_,rfl⟩
  have J4:=hv x (by rw [hx];exact List.getElem_mem F1)
  have jv:(so.take (m+1)).foldl (cQ n) (aI,none)=cQ n (a,o) x:=by
   rw [List.take_succ_eq_append_getElem F1,List.foldl_append,I8,hx];rfl
  obtain ⟨b,OA,iu⟩:=hq.span (old hK) F1
  obtain ⟨B,hB⟩ : ∃B,B=(K.alloc (.cells [.int .i64 0,.int .i64 0,.int .i64 0,.int .i64 0] 54 { whole:=true })).set K.n (.cells x.cells 54 { whole:=true }):=⟨_,rfl⟩
  have bg:B.get K.n=some (.cells x.cells 54 { whole:=true }):=by rw [hB,AH.af,if_pos rfl]
  have bn:B.n=K.n+1:=by rw [hB];rfl
  have bo : ∀c,c<K.n→B.get c=K.get c:=fun c hc=>by rw [hB,AH.af,if_neg (by omega),AH.aa,if_neg (by omega)]
  have gB:G a B:=gk hK (by omega) bo
  have X9:H.n+2<K.n:=by rw [hG] at hK;exact hK.1
  have rb : ∀i:Nat,B.ak K.n i=x.cells[i]?:=fun i=>by unfold AH.ak;rw [bg]
  refine ⟨fun y K'=>∃(a' : aj) (o' : Option av) (IP:Int),y=(H.n,H.n+1,H.n+2,IP,(m:Int))∧cQ n (a,o) x=(a',o')∧G a' K'∧I o' IP (m+1),⟨_,_,_,r1 hK,b,0,⟨by rw [OA];rfl,by omega,by omega⟩,x.f,x.t,x.k,x.v,by rw [hx];exact iu,rfl,B,by rw [hB];simp [AH.write,AH.aa,aA,AV.one,av.cells],x.f,by rw [rb];rfl,x.t,by rw [rb];rfl,?_⟩,?_⟩
  ·have Vt:(decide (n<x.f) || decide (n≥x.t)) = !aG x n:=by
    unfold aG
    rw [Bool.not_and]
    congr 1
    ·rw [← decide_not,decide_eq_decide];omega
    ·rw [← decide_not,decide_eq_decide];omega
   have xF:I o lM (m+1):=by
    rw [hI] at fO ⊢
    rcases fO with h | ⟨j,hj,h1,h2⟩
    ·exact .inl h
    ·exact .inr ⟨j,hj,by omega,h2⟩
   rw [Vt]
   unfold cQ
   cases hc:aG x n with
   | false =>
    simp only [Bool.not_false,cond_true,cond_false]
    exact ⟨(H.n,H.n+1,H.n+2,lM,(m:Int)),0,trivial,rfl,a,o,lM,rfl,rfl,gB,xF⟩
   | true =>
    simp only [Bool.not_true,cond_false,cond_true]
    refine ⟨x.k,by rw [rb];rfl,?_⟩
    by_cases h1:x.k=1
    ·have e:(x.k == 1)=true:=by rw [h1];rfl
     have ic:jc x=false:=by unfold jc;rw [e];rfl
     simp only [e,ic,cond_true,cond_false]
     obtain ⟨K',w1,w2,_⟩:=gw (a':={ a with b:=true }) gB (i:=0) (by decide) (v:=.bool true) rfl (by simp [aA,aj.cells])
     exact ⟨(by trivial),K',w1,(H.n,H.n+1,H.n+2,lM,(m:Int)),0,trivial,rfl,_,o,lM,rfl,by unfold eO;rw [if_pos h1],w2,xF⟩
    have e1:(x.k == 1)=false:=beq_eq_false_iff_ne.2 h1
    simp only [e1,cond_false]
    by_cases h2:x.k=2
    ·have e:(x.k == 2)=true:=by rw [h2];rfl
     have ic:jc x=false:=by unfold jc;rw [e];simp
     simp only [e,ic,cond_true,cond_false]
     obtain ⟨K',w1,w2,_⟩:=gw (a':={ a with i:=true }) gB (i:=1) (by decide) (v:=.bool true) rfl (by simp [aA,aj.cells])
     exact ⟨(by trivial),K',w1,(H.n,H.n+1,H.n+2,lM,(m:Int)),0,trivial,rfl,_,o,lM,rfl,by unfold eO;rw [if_neg h1,if_pos h2],w2,xF⟩
    have e2:(x.k == 2)=false:=beq_eq_false_iff_ne.2 h2
    simp only [e2,cond_false]
    by_cases h3:x.k=3
    ·have e:(x.k == 3)=true:=by rw [h3];rfl
     have ic:jc x=false:=by unfold jc;rw [e];simp
     simp only [e,ic,cond_true,cond_false]
     obtain ⟨K',w1,w2,_⟩:=gw (a':={ a with u:=true }) gB (i:=2) (by decide) (v:=.bool true) rfl (by simp [aA,aj.cells])
     exact ⟨(by trivial),K',w1,(H.n,H.n+1,H.n+2,lM,(m:Int)),0,trivial,rfl,_,o,lM,rfl,by unfold eO;rw [if_neg h1,if_neg h2,if_pos h3],w2,xF⟩
    have e3:(x.k == 3)=false:=beq_eq_false_iff_ne.2 h3
    simp only [e3,cond_false]
    by_cases h4:x.k=4
    ·have e:(x.k == 4)=true:=by rw [h4];rfl
     have ic:jc x=false:=by unfold jc;rw [e];simp
     simp only [e,ic,cond_true,cond_false]
     obtain ⟨K',w1,w2,_⟩:=gw (a':={ a with k:=true }) gB (i:=3) (by decide) (v:=.bool true) rfl (by simp [aA,aj.cells])
     exact ⟨(by trivial),K',w1,(H.n,H.n+1,H.n+2,lM,(m:Int)),0,trivial,rfl,_,o,lM,rfl,by unfold eO;rw [if_neg h1,if_neg h2,if_neg h3,if_pos h4],w2,xF⟩
    have e4:(x.k == 4)=false:=beq_eq_false_iff_ne.2 h4
    have ic:jc x=true:=by unfold jc;rw [e1,e2,e3,e4];rfl
    simp only [e4,ic,cond_true,cond_false]
    have ft:(false == false)=true:=rfl
    have tf:(true == false)=false:=rfl
    obtain ⟨T,hT⟩ : ∃T:Bool,T=match o with
     | none=>true
     | some y=>bE x y:=⟨_,rfl⟩
    have Vu:nk x (a,o)=bif T then ({ a with c:=x.v+1 },some x) else (a,o):=by
     rw [hT];unfold nk
     cases o <;> rfl
    rw [Vu]
    refine ⟨fun y K'=>y=((H.n,H.n+1,H.n+2,lM,(m:Int)),K.n,T)∧B=K',?_,?_⟩
    ·rw [hI] at fO
     rcases fO with ⟨rfl,rfl⟩ | ⟨j,hj,OK,rfl,rfl⟩
     ·have d:decide ((-1:Int)<0)=true:=by decide
      simp only [d,tf,cond_false]
      exact ⟨((H.n,H.n+1,H.n+2,-1,(m:Int)),K.n,true),0,trivial,rfl,by rw [hT],(by trivial)⟩
     ·have d:decide ((j:Int)<0)=false:=by rw [decide_eq_false_iff_not];omega
      simp only [d,ft,cond_true]
      obtain ⟨b',e',uG⟩:=hq.span (old gB) hj
      refine ⟨x.f,x.t,x.k,x.v,by unfold AH.read;rw [bg];rfl,_,_,_,r1 gB,b',0,⟨by rw [e'];rfl,by omega,by omega⟩,_,_,_,_,uG,?_⟩
      refine (kI x so[j]).c7 ⟨_,rfl,((H.n,H.n+1,H.n+2,(j:Int),(m:Int)),K.n,bE x so[j]),0,trivial,rfl,?_,rfl⟩
      rw [hT]
    ·rintro _ _ ⟨rfl,rfl⟩
     simp only
     have Wh:I (some x) (m:Int) (m+1):=by
      rw [hI];exact .inr ⟨m,F1,by omega,rfl,by rw [hx]⟩
     cases T with
     | true =>
      simp only [cond_true]
      have w1:IntKind.i64.wrap (x.v+1)=x.v+1:=wrap_i64 (by omega) (by omega)
      obtain ⟨K',w2,w3,_⟩:=gw (a':={ a with c:=x.v+1 }) gB (i:=4) (by decide) (v:=.int .i64 (x.v+1)) rfl (by simp [aA,aj.cells])
      exact ⟨x.v,by rw [rb];rfl,rfl,K',by rw [w1];exact w2,(H.n,H.n+1,H.n+2,(m:Int),(m:Int)),0,trivial,rfl,_,_,(m:Int),rfl,rfl,w3,Wh⟩
     | false =>
      simp only [cond_false]
      exact ⟨(H.n,H.n+1,H.n+2,lM,(m:Int)),0,trivial,rfl,a,o,lM,rfl,rfl,gB,xF⟩
  ·rintro _ K' ⟨a',o',IP,rfl,fU,wZ,VS⟩
   simp only
   exact ⟨(H.n,H.n+1,H.n+2,IP,((m+1:Nat):Int)),so.length - (m+1),by omega,by rw [EJ m (by omega)],m+1,a',o',IP,rfl,by omega,by rw [jv,fU],wZ,VS,rfl⟩
 ·obtain rfl:m=so.length:=by omega
  have d:decide ((so.length:Int)<(so.length:Int))=false:=by rw [decide_eq_false_iff_not];omega
  simp only [d,cond_false]
  rw [List.take_length] at I8
  have ea:bw so n=a:=by unfold bw;rw [I8]
  rw [hG] at hK
  refine ⟨a.b,a.i,a.u,a.k,a.c,by unfold AH.read;rw [hK.2.2.2.1];rfl,rfl,K.set (H.n+1) (.cells a.cells 63 { whole:=true }),?_,a.b,a.i,a.u,a.k,a.c,?_,?_⟩
  ·unfold AH.write
   rw [hK.2.2.1]
   simp [aA,AV.one,aj.cells,aI]
  ·simp [AH.read,AH.af,aj.cells]
  ·rw [hQ,ea]
   exact ⟨rfl,by show H.n≤K.n;omega,fun c hc=>by rw [AH.af,if_neg (by omega)];exact hK.2.2.2.2 c hc⟩
set_option maxRecDepth 100000 in
theorem CC (s:List UInt8) (n:Nat) (hn:aE s n) (hs:s.length≤4096) {so:List av} (hl:so.length≤1000000) (hv : ∀x ∈ so,-1000000000≤x.v∧x.v≤1000000000) {H:AH} {q:Option Nat} {cp:Nat} (hq:fE H q cp so) :
  aD Tryz.prog 35 [.agg [.str s,.slice (q.map fun b=>(b,0)) so.length cp]] H fun v H' =>
   ∃q',v=sl q' n∧bQ H' q' n (flat aj.cells ((List.range n).map fun i:Nat=>bw so (i:Int))) 63∧(∀b,q'=some b→H.n≤b∧b<H'.n)∧H.n≤H'.n∧∀c,c<H.n→H'.get c=H.get c:=by
 have C4:n≤s.length:=by have:=dr hn.2;have:=hn.1;omega
 refine .inl ⟨aB (by kernel_rfl),bP (aS:=_) (c9:=_) aq (Eq.mpr (KU (real Tryz.prog) (Iter Tryz.prog) s (q.map fun b=>(b,0)) so.length cp H _) ?_)⟩
 simp only [bu,aU,aQ,aP,aF,aK,eR]
 obtain ⟨A,hA⟩ : ∃A,A=H.alloc (.cells [.str s,.slice (q.map fun b=>(b,0)) so.length cp] 24 { whole:=true }):=⟨_,rfl⟩
 rw [← hA]
 obtain ⟨G,hG⟩ : ∃G:AH→Prop,G=fun K=>K.get H.n=some (.cells [.str s,.slice (q.map fun b=>(b,0)) so.length cp] 24 { whole:=true })∧H.n<K.n∧∀c,c<H.n→K.get c=H.get c:=⟨_,rfl⟩
 have gA:G A:=by
  rw [hG,hA];exact ⟨by rw [AH.aa,if_pos rfl],by simp,fun c hc=>by rw [AH.aa,if_neg (by omega)]⟩
 have gk : ∀ {K K'},G K→K.n≤K'.n→(∀b,b≤H.n→K'.get b=K.get b)→G K':=fun {K K'} hK h1 h2=>by
  rw [hG] at hK ⊢
  exact ⟨by rw [h2 _ (Nat.le_refl _)];exact hK.1,by omega,fun c hc=>by rw [h2 c (by omega)];exact hK.2.2 c hc⟩
 obtain ⟨L,hL⟩ : ∃L:Nat→List aj,L=fun m=>(List.range m).map fun i:Nat=>bw so (i:Int):=⟨_,rfl⟩
 have TB : ∀m,(L m).length=m:=fun m=>by rw [hL];simp
 have hLs : ∀m,L (m+1)=L m ++ [bw so (m:Int)]:=fun m=>by rw [hL];simp [List.range_succ]
 have hLe:(List.range n).map (fun i:Nat=>bw so (i:Int))=L n:=by rw [hL]
 rw [hLe]
 have Yh:=gA
 rw [hG] at Yh
 refine ⟨(by trivial),s,by unfold AH.ak;rw [Yh.1];rfl,(tX s n hn (by omega) A).mono ?_⟩
 rintro v B ⟨rfl,bn,bo⟩
 have gB:G B:=gk gA bn fun b hb=>bo b (by omega)
 refine ⟨n,rfl,fun y K k=>∃(m:Nat) (q' : Option Nat),y=(H.n,(n:Int),(q'.map (fun b=>(b,0)),m),(m:Int))∧m≤n∧G K∧bQ K q' m (flat aj.cells (L m)) 63∧(∀b,q'=some b→H.n<b∧b<K.n)∧k=n - m,
  ⟨(H.n,(n:Int),(none,0),0),n,rfl,0,none,rfl,Nat.zero_le _,gB,⟨rfl,by rw [hL];rfl⟩,(fun b h=>by cases h),rfl⟩,?_⟩
 rintro _ K _ ⟨m,q',rfl,hm,hK,J7,uH,rfl⟩
 simp only
 have wZ:=hK
 rw [hG] at wZ
 obtain ⟨k1,k2,k3⟩:=wZ
 by_cases F1:m<n
 ·have d:decide ((m:Int)<(n:Int))=true:=by rw [decide_eq_true_iff];omega
  simp only [d,cond_true]
  refine ⟨s,_,_,_,by unfold AH.read;rw [k1];rfl,?_⟩
  refine (HZ s hl hv (hq.eA (by omega) k3) (m:Int)).mono ?_
  rintro v K1 ⟨rfl,n1,o1⟩
  obtain ⟨a,ha⟩ : ∃a,a=bw so (m:Int):=⟨_,rfl⟩
  rw [← ha]
  obtain ⟨C,hC⟩ : ∃C,C=K1.alloc (.cells a.cells 63 { whole:=true }):=⟨_,rfl⟩
  have cg:C.get K1.n=some (.cells a.cells 63 { whole:=true }):=by rw [hC,AH.aa,if_pos rfl]
  have co : ∀c,c<K1.n→C.get c=K1.get c:=fun c hc=>by rw [hC,AH.aa,if_neg (by omega)]
  have cn:C.n=K1.n+1:=by rw [hC];rfl
  have OI:bQ C q' (L m).length (flat aj.cells (L m)) 63:=by
   rw [TB]
   exact J7.same fun b hb=>by have:=uH b hb;rw [co b (by omega),o1 b (by omega)]
  obtain ⟨H5,a1,a2,a3,a4⟩:=r9 (y:=a) OI cg (by rw [TB];omega)
  rw [TB] at a1
  have al:(L m ++ [a]).length=m+1:=by simp [TB]
  rw [al] at a1 a3
  refine ⟨a.b,a.i,a.u,a.k,a.c,rfl,by decide,some (C.n,0),m+1,m+1,H5,?_,(H.n,(n:Int),(some (C.n,0),m+1),((m+1:Nat):Int)),n - (m+1),by omega,by rw [EJ m (by omega)],m+1,some C.n,rfl,by omega,?_,?_,?_,rfl⟩
  ·rw [hC] at a1 ⊢;exact a1
  ·refine gk hK (by omega) fun b hb=>?_
   rw [a4 _ (by omega) (fun e=>by have:=uH _ e;omega),co _ (by omega),o1 _ (by omega)]
  ·rw [hLs,← ha];exact a3
  ·rintro b hb;cases hb;omega
 ·obtain rfl:m=n:=by omega
  have d:decide ((m:Int)<(m:Int))=false:=by rw [decide_eq_false_iff_not];omega
  simp only [d,cond_false]
  exact ⟨q',rfl,J7,fun b hb=>by have:=uH b hb;omega,by omega,k3⟩
end Go.Proofs.YtlkdhhkncoekgaaGreatDoor
end
