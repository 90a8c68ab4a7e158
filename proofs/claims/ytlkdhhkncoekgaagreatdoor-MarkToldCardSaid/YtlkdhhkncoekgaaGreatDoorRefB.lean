/- The document's texts with spans (chapter 7), by the reference's functions: signs counted, right spans, how a sign looks. -/
import Derived.Test.YtlkdhhkncoekgaaGreatDoorRefA
import Derived.Test.YtlkdhhkncoekgaaGreatDoorNormr
/- The signs of a text. -/
section
namespace Go.Proofs.YtlkdhhkncoekgaaGreatDoor
open Go.Am Go
def eu (x:Nat×Nat×Nat×Bool):List AV:=[.int .i64 x.1,.int .i64 x.2.1,.int .i64 x.2.2.1,.bool x.2.2.2]
def KA (s:List UInt8) (m:Nat):Nat×Nat×Nat×Bool:=(place s m,(ah s (place s m)).2,(ah s (place s m)).1,vU s (place s m))
def Ac (s:List UInt8) (n:Nat):List (Nat×Nat×Nat×Bool):=(List.range n).map (KA s)
theorem kE (s:List UInt8) (n:Nat):(Ac s n).length=n:=by simp [Ac]
theorem Ht (s:List UInt8) (n:Nat):Ac s (n+1)=Ac s n ++ [KA s n]:=by simp [Ac,List.range_succ]
theorem Gs {H:AH} {q:Option Nat} {l:List (Nat×Nat×Nat×Bool)} {y:Nat×Nat×Nat×Bool} {c:Nat} {fl:Fl} (hl:bQ H q l.length (flat eu l) 183) (hc:H.get c=some (.cells (eu y) 183 fl)) (hm:l.length≤1000000000) :
  ∃H',bV Tryz.prog H 162 162 (sl q l.length) (.slice (some (c,0)) 1 1)=some (sl (some H.n) (l ++ [y]).length,H')∧H'.n=H.n+1∧bQ H' (some H.n) (l ++ [y]).length (flat eu (l ++ [y])) 183∧∀c,c<H.n→q ≠ some c→H'.get c=H.get c :=
 gl (nA:=32) (s:=4) (z:=.agg [.int .i64 0,.int .i64 0,.int .i64 0,.bool false]) (by kernel_rfl) (by kernel_rfl) (by kernel_rfl) (by kernel_rfl) rfl (by decide) (fun _=>rfl) (fun x=>by simp [eu,AV.one]) hl hc (by omega)
set_option maxRecDepth 100000 in
theorem HQ (s:List UInt8) (n:Nat) (hn:aE s n) (hs:s.length≤1000000000) (H:AH):aD Tryz.prog 107 [.str s] H fun v H' =>
  ∃q,v=sl q n∧bQ H' q n (flat eu (Ac s n)) 183∧(∀b,q=some b→H.n≤b∧b<H'.n)∧H.n≤H'.n∧∀c,c<H.n→H'.get c=H.get c:=by
 have C4:n≤s.length:=by have:=dr hn.2;have:=hn.1;omega
 refine .inl ⟨aB (by kernel_rfl),bP (aS:=_) (c9:=_) aq (Eq.mpr (Fk (real Tryz.prog) (Iter Tryz.prog) s H _) ?_)⟩
 simp only [bu,aU,aQ,aP,aF,bU,aK,eR,KK]
 obtain ⟨A,hA⟩ : ∃A,A=H.alloc (.cells (aC s) 5 { fD:=true,lC:=true }):=⟨_,rfl⟩
 have RS:gR Tryz.prog H 9 94 (.str s)=some (.slice (some (H.n,0)) s.length s.length,A):=by rw [hA];rfl
 obtain ⟨G,hG⟩ : ∃G:AH→Prop,G=fun K=>K.get H.n=some (.cells (aC s) 5 { fD:=true,lC:=true })∧H.n<K.n∧∀c,c<H.n→K.get c=H.get c:=⟨_,rfl⟩
 have gA:G A:=by
  rw [hG,hA];exact ⟨by rw [AH.aa,if_pos rfl],by simp,fun c hc=>by rw [AH.aa,if_neg (by omega)]⟩
 refine ⟨_,_,_,A,RS,fun y K k=>∃(m:Nat) (q:Option Nat),y=((H.n,s.length),(q.map (fun b=>(b,0)),m),((place s m:Nat):Int))∧m≤n∧G K∧bQ K q m (flat eu (Ac s m)) 183∧(∀b,q=some b→H.n<b∧b<K.n)∧k=n - m,
  ⟨((H.n,s.length),(none,0),0),n,rfl,0,none,rfl,Nat.zero_le _,gA,⟨rfl,rfl⟩,(fun b h=>by cases h),rfl⟩,?_⟩
 rintro _ K _ ⟨m,q,rfl,hm,hK,hl,hq,rfl⟩
 simp only
 have wZ:=hK
 rw [hG] at wZ
 obtain ⟨k1,k2,k3⟩:=wZ
 by_cases F1:m<n
 ·have hp:=hn.2 m F1
  have d:decide (((place s m:Nat):Int)<(s.length:Int))=true:=by rw [decide_eq_true_iff];omega
  simp only [d,cond_true]
  refine (N2 k1 k2 hp (by omega)).mono ?_
  rintro v K1 ⟨rfl,n1,o1⟩
  have Oi:K1.get H.n=_:=(o1 _ k2).trans k1
  obtain ⟨x,hx⟩ : ∃x,x=KA s m:=⟨_,rfl⟩
  obtain ⟨B,hB⟩ : ∃B,B=(K1.alloc (.cells [.int .i64 0,.int .i64 0,.int .i64 0,.bool false] 183 { whole:=true })).set K1.n (.cells (eu x) 183 { whole:=true }):=⟨_,rfl⟩
  have bg:B.get K1.n=some (.cells (eu x) 183 { whole:=true }):=by rw [hB,AH.af,if_pos rfl]
  have bo : ∀c,c<K1.n→B.get c=K1.get c:=fun c hc=>by rw [hB,AH.af,if_neg (by omega),AH.aa,if_neg (by omega)]
  have bn:B.n=K1.n+1:=by rw [hB];rfl
  obtain ⟨C,hC⟩ : ∃C,C=B.alloc (.cells (eu x) 183 { whole:=true }):=⟨_,rfl⟩
  have cg:C.get B.n=some (.cells (eu x) 183 { whole:=true }):=by rw [hC,AH.aa,if_pos rfl]
  have co : ∀c,c<B.n→C.get c=B.get c:=fun c hc=>by rw [hC,AH.aa,if_neg (by omega)]
  have cn:C.n=B.n+1:=by rw [hC];rfl
  have OI:bQ C q (Ac s m).length (flat eu (Ac s m)) 183:=by
   rw [kE]
   exact hl.same fun b hb=>by have:=hq b hb;rw [co b (by omega),bo b (by omega),o1 b (by omega)]
  obtain ⟨H5,a1,a2,a3,a4⟩:=Gs (y:=x) OI cg (by rw [kE];omega)
  rw [kE] at a1
  have al:(Ac s m ++ [x]).length=m+1:=by simp [kE]
  rw [al] at a1 a3
  refine ⟨_,_,_,_,rfl,rfl,B,by rw [hB,hx];simp [AH.write,AH.aa,aA,AV.one,eu,KA],x.1,x.2.1,x.2.2.1,x.2.2.2,by simp [AH.read,bg,eu],by decide,some (C.n,0),m+1,m+1,H5,?_,x.2.1,?_,((H.n,s.length),(some (C.n,0),m+1),((place s (m+1):Nat):Int)),n - (m+1),by omega,?_,m+1,some C.n,rfl,by omega,?_,?_,?_,rfl⟩
  ·rw [hC] at a1 ⊢;exact a1
  ·unfold AH.ak
   rw [a4 K1.n (by omega) (fun e=>by have:=hq _ e;omega),co _ (by omega),bg];rfl
  ·have hle:=iN hp
   have e:(place s m:Int)+(x.2.1:Int)=((place s (m+1):Nat):Int):=by rw [hx];show (place s m:Int)+((ah s (place s m)).2:Int)=((place s m+(ah s (place s m)).2:Nat):Int);omega
   rw [e,wrap_i64 (by omega) (by omega)]
  ·rw [hG]
   refine ⟨?_,by omega,fun c hc=>?_⟩
   ·rw [a4 _ (by omega) (fun e=>by have:=hq _ e;omega),co _ (by omega),bo _ (by omega)];exact Oi
   ·rw [a4 _ (by omega) (fun e=>by have:=hq _ e;omega),co _ (by omega),bo _ (by omega),o1 _ (by omega)];exact k3 c hc
  ·rw [Ht,← hx];exact a3
  ·rintro b hb;cases hb;omega
 ·obtain rfl:m=n:=by omega
  have d:decide (((place s m:Nat):Int)<(s.length:Int))=false:=by rw [decide_eq_false_iff_not];have:=hn.1;omega
  simp only [d,cond_false]
  exact ⟨q,rfl,hl,fun b hb=>by have:=hq b hb;omega,by omega,k3⟩
theorem tX (s:List UInt8) (n:Nat) (hn:aE s n) (hs:s.length≤1000000000) (H:AH):aD Tryz.prog 64 [.str s] H fun v H'=>v=.int .i64 n∧H.n≤H'.n∧∀c,c<H.n→H'.get c=H.get c:=by
 refine .inl ⟨aB (by kernel_rfl),c6 (aS:=[]) aq ?_⟩
 rw [Fs]
 refine (HQ s n hn hs H).mono ?_
 rintro v H' ⟨q,rfl,_,_,h1,h2⟩
 exact ⟨_,_,_,rfl,rfl,h1,h2⟩
end Go.Proofs.YtlkdhhkncoekgaaGreatDoor
end
/- Spans: right ones, ones that cross. -/
section
namespace Go.Proofs.YtlkdhhkncoekgaaGreatDoor
open Go.Am Go
theorem kI (x y:av):Pure Tryz.prog 108 [.agg x.cells,.agg y.cells] (.bool (bE x y)):=by
 refine Pure.fB aq [] (by kernel_rfl) (by simp [AV.cZ,AV.bT,av.cells]) rfl ?_
 show fG _ _ _ _ [.agg [.int .i64 x.f,.int .i64 x.t,.int .i64 x.k,.int .i64 x.v],.agg [.int .i64 y.f,.int .i64 y.t,.int .i64 y.k,.int .i64 y.v]] _ _
 rw [Cy]
 simp [AH.ak,AH.aa,bE]
theorem rG (x y:av):Pure Tryz.prog 66 [.agg x.cells,.agg y.cells] (.bool (bA x y)):=by
 refine Pure.fB aq [] (by kernel_rfl) (by simp [AV.cZ,AV.bT,av.cells]) rfl ?_
 show fG _ _ _ _ [.agg [.int .i64 x.f,.int .i64 x.t,.int .i64 x.k,.int .i64 x.v],.agg [.int .i64 y.f,.int .i64 y.t,.int .i64 y.k,.int .i64 y.v]] _ _
 rw [Fq]
 simp only [bu,aU,aQ,aP,aF]
 obtain ⟨A,hA⟩ : ∃A,A=((aL Tryz.prog).alloc (.cells [.int .i64 x.f,.int .i64 x.t,.int .i64 x.k,.int .i64 x.v] 54 { whole:=true })).alloc (.cells [.int .i64 y.f,.int .i64 y.t,.int .i64 y.k,.int .i64 y.v] 54 { whole:=true }):=⟨_,rfl⟩
 have an:((aL Tryz.prog).alloc (.cells [.int .i64 x.f,.int .i64 x.t,.int .i64 x.k,.int .i64 x.v] 54 { whole:=true })).n=(aL Tryz.prog).n+1:=rfl
 rw [← hA,an]
 have gx:A.get (aL Tryz.prog).n=some (.cells x.cells 54 { whole:=true }):=by rw [hA,AH.aa,if_neg (by simp only [AH.az];omega),AH.aa,if_pos rfl];rfl
 have gy:A.get ((aL Tryz.prog).n+1)=some (.cells y.cells 54 { whole:=true }):=by rw [hA,AH.aa,if_pos an.symm];rfl
 have rx:A.read (aL Tryz.prog).n 0 4=some [.int .i64 x.f,.int .i64 x.t,.int .i64 x.k,.int .i64 x.v]:=by unfold AH.read;rw [gx];rfl
 have ry:A.read ((aL Tryz.prog).n+1) 0 4=some [.int .i64 y.f,.int .i64 y.t,.int .i64 y.k,.int .i64 y.v]:=by unfold AH.read;rw [gy];rfl
 refine ⟨(by trivial),(by trivial),x.f,by unfold AH.ak;rw [gx];rfl,y.t,by unfold AH.ak;rw [gy];rfl,y.f,by unfold AH.ak;rw [gy];rfl,x.t,by unfold AH.ak;rw [gx];rfl,x.f,x.t,x.k,x.v,rx,y.f,y.t,y.k,y.v,ry,?_⟩
 have tt:(true == true)=true:=rfl
 have ff:(false == true)=false:=rfl
 unfold bA
 cases h1:(decide (x.f<y.t) && decide (y.f<x.t)) with
 | false =>
  simp only [ff,cond_false]
  exact ⟨y.f,y.t,y.k,y.v,ry,x.f,x.t,x.k,x.v,rx,rfl⟩
 | true =>
  simp only [tt,cond_true]
  refine (kI x y).c7 ⟨_,rfl,y.f,y.t,y.k,y.v,ry,x.f,x.t,x.k,x.v,rx,?_⟩
  cases h2:bE x y with
  | true=>rfl
  | false =>
   have nt:((!false) == true)=true:=rfl
   simp only [nt,cond_true]
   exact (kI y x).c7 ⟨_,rfl,rfl⟩
theorem tW (x:av) (n:Int):Pure Tryz.prog 65 [.agg x.cells,.int .i64 n] (.bool (dJ x n)):=by
 refine Pure.fB aq [] (by kernel_rfl) (by simp [AV.cZ,AV.bT,av.cells]) rfl ?_
 show fG _ _ _ _ [.agg [.int .i64 x.f,.int .i64 x.t,.int .i64 x.k,.int .i64 x.v],.int .i64 n] _ _
 rw [Ib]
 simp only [bu,aU,aQ]
 obtain ⟨A,hA⟩ : ∃A,A=(aL Tryz.prog).alloc (.cells [.int .i64 x.f,.int .i64 x.t,.int .i64 x.k,.int .i64 x.v] 54 { whole:=true }):=⟨_,rfl⟩
 rw [← hA]
 have gx:A.get (aL Tryz.prog).n=some (.cells x.cells 54 { whole:=true }):=by rw [hA,AH.aa,if_pos rfl];rfl
 have r0:A.ak (aL Tryz.prog).n 0=some (.int .i64 x.f):=by unfold AH.ak;rw [gx];rfl
 have r1:A.ak (aL Tryz.prog).n 1=some (.int .i64 x.t):=by unfold AH.ak;rw [gx];rfl
 have r2:A.ak (aL Tryz.prog).n 2=some (.int .i64 x.k):=by unfold AH.ak;rw [gx];rfl
 have r3:A.ak (aL Tryz.prog).n 3=some (.int .i64 x.v):=by unfold AH.ak;rw [gx];rfl
 refine ⟨(by trivial),x.f,r0,x.t,r1,x.f,r0,x.t,r1,x.k,r2,x.k,r2,?_⟩
 unfold dJ
 cases h1:(decide (x.f<0) || decide (x.t > n) || decide (x.f≥x.t) || decide (x.k<1) || decide (x.k > 5)) with
 | true=>rfl
 | false =>
  simp only [cond_false]
  refine ⟨x.k,r2,?_⟩
  cases h2:(x.k == 5) with
  | true=>exact ⟨x.v,r3,x.v,r3,rfl⟩
  | false=>exact ⟨x.v,r3,rfl⟩
theorem ze {x:av} {n:Int} (h:dJ x n=true) : -1000000000≤x.v∧x.v≤1000000000:=by
 unfold dJ at h
 cases h1:(decide (x.f<0) || decide (x.t > n) || decide (x.f≥x.t) || decide (x.k<1) || decide (x.k > 5)) with
 | true=>rw [h1] at h;cases h
 | false =>
  rw [h1] at h
  simp only [cond_false] at h
  cases h2:(x.k == 5) with
  | true =>
   rw [h2] at h
   simp only [cond_true,Bool.and_eq_true,decide_eq_true_eq] at h
   omega
  | false =>
   rw [h2] at h
   simp only [cond_false,beq_iff_eq] at h
   omega
def ep (H:AH) (q:Option Nat) (so:List av):Prop :=
 (match q with
 | none=>so=[]
 | some b=>∃fl,H.get b=some (.cells (flat av.cells so) 54 fl))∧∀b,q=some b→b<H.n
theorem ep.of {H:AH} {q:Option Nat} {so:List av} (h:bQ H q so.length (flat av.cells so) 54) (hb : ∀b,q=some b→b<H.n):ep H q so:=by
 refine ⟨?_,hb⟩
 cases q with
 | none=>exact List.length_eq_zero_iff.1 h.1
 | some b=>exact ⟨_,h⟩
def zF (H:AH) (q:Option Nat) (so:List av):Prop:=bQ H q so.length (flat av.cells so) 54∧∀b,q=some b→b<H.n
theorem zF.text {H:AH} {q:Option Nat} {so:List av} (h:zF H q so):ep H q so:=.of h.1 h.2
theorem ep.eA {H H' : AH} {q:Option Nat} {so:List av} (h:ep H q so) (hn:H.n≤H'.n) (k : ∀c,c<H.n→H'.get c=H.get c):ep H' q so:=by
 refine ⟨?_,fun b hb=>by have:=h.2 b hb;omega⟩
 have h1:=h.1
 cases q with
 | none=>exact h1
 | some b=>obtain ⟨fl,h1⟩:=h1;exact ⟨fl,(k b (h.2 b rfl)).trans h1⟩
def fE (H:AH) (q:Option Nat) (cp:Nat) (so:List av):Prop :=
 (match q with
 | none=>so=[]∧cp=0
 | some b=>∃e fl more,H.get b=some (.cells (flat av.cells (so ++ more)) e fl)∧cp=(so ++ more).length)∧∀b,q=some b→b<H.n
theorem ep.sp {H:AH} {q:Option Nat} {so:List av} (h:ep H q so):fE H q so.length so:=by
 refine ⟨?_,h.2⟩
 have h1:=h.1
 cases q with
 | none=>have e:so=[]:=h1;rw [e];exact ⟨rfl,rfl⟩
 | some b=>obtain ⟨fl,h1⟩:=h1;exact ⟨54,fl,[],by rw [List.append_nil];exact h1,by rw [List.append_nil]⟩
theorem fE.le {H:AH} {q:Option Nat} {cp:Nat} {so:List av} (h:fE H q cp so):so.length≤cp:=by
 have h1:=h.1
 cases q with
 | none=>obtain ⟨e,_⟩ : so=[]∧cp=0:=h1;rw [e];exact Nat.zero_le _
 | some b=>obtain ⟨e,fl,more,_,h2⟩:=h1;rw [h2,List.length_append];omega
theorem fE.eA {H H' : AH} {q:Option Nat} {cp:Nat} {so:List av} (h:fE H q cp so) (hn:H.n≤H'.n) (k : ∀c,c<H.n→H'.get c=H.get c):fE H' q cp so:=by
 refine ⟨?_,fun b hb=>by have:=h.2 b hb;omega⟩
 have h1:=h.1
 cases q with
 | none=>exact h1
 | some b=>obtain ⟨e,fl,more,h1,h2⟩:=h1;exact ⟨e,fl,more,(k b (h.2 b rfl)).trans h1,h2⟩
theorem fE.span {H:AH} {q:Option Nat} {cp:Nat} {so:List av} (h:fE H q cp so) {K:AH} (k : ∀c,c<H.n→K.get c=H.get c) {i:Nat} (hi:i<so.length) : ∃b,q=some b∧K.read b (0+((i:Nat):Int).toNat*4) 4=some [.int .i64 so[i].f,.int .i64 so[i].t,.int .i64 so[i].k,.int .i64 so[i].v]:=by
 obtain ⟨h1,h2⟩:=h
 cases q with
 | none=>obtain ⟨e,_⟩ : so=[]∧cp=0:=h1;rw [e] at hi;cases hi
 | some b =>
  obtain ⟨e,fl,more,hb,_⟩ : ∃e fl more,H.get b=some (.cells (flat av.cells (so ++ more)) e fl)∧cp=(so ++ more).length:=h1
  have Bg:i<(so ++ more).length:=by rw [List.length_append];omega
  have:=cH av.ay (H:=K) (b:=b) (i:=i) (by rw [k b (h2 b rfl)];exact hb) Bg
  rw [List.getElem_append_left hi] at this
  exact ⟨b,rfl,this⟩
theorem ep.span {H:AH} {q:Option Nat} {so:List av} (h:ep H q so) {K:AH} (k : ∀c,c<H.n→K.get c=H.get c) {i:Nat} (hi:i<so.length) : ∃b,q=some b∧K.read b (0+((i:Nat):Int).toNat*4) 4=some [.int .i64 so[i].f,.int .i64 so[i].t,.int .i64 so[i].k,.int .i64 so[i].v]:=h.sp.span k hi
set_option maxRecDepth 100000 in
theorem Ay (s:List UInt8) (n:Nat) (hn:aE s n) (hs:s.length≤4096) {so:List av} (hl:so.length≤256) (hf : ∀x ∈ so,dJ x n=true) (hx : ∀x ∈ so,∀y ∈ so,bA x y=false) {H:AH} {q:Option Nat} {cp:Nat} (hq:fE H q cp so) :
  aD Tryz.prog 29 [.agg [.str s,.slice (q.map fun b=>(b,0)) so.length cp]] H fun v H'=>v=.int .i64 0∧H.n≤H'.n∧∀c,c<H.n→H'.get c=H.get c:=by
 refine .inl ⟨aB (by kernel_rfl),bP (aS:=_) (c9:=_) aq (Eq.mpr (wB (real Tryz.prog) (Iter Tryz.prog) s (q.map fun b=>(b,0)) so.length cp H _) ?_)⟩
 simp only [bu,aU,aQ,aP,aF,aK]
 obtain ⟨A,hA⟩ : ∃A,A=H.alloc (.cells [.str s,.slice (q.map fun b=>(b,0)) so.length cp] 24 { whole:=true }):=⟨_,rfl⟩
 rw [← hA]
 obtain ⟨G,hG⟩ : ∃G:AH→Prop,G=fun K=>K.get H.n=some (.cells [.str s,.slice (q.map fun b=>(b,0)) so.length cp] 24 { whole:=true })∧H.n<K.n∧∀c,c<H.n→K.get c=H.get c:=⟨_,rfl⟩
 have gA:G A:=by
  rw [hG,hA];exact ⟨by rw [AH.aa,if_pos rfl],by simp,fun c hc=>by rw [AH.aa,if_neg (by omega)]⟩
 have r0 : ∀ {K},G K→K.ak H.n 0=some (.str s):=fun {K} h=>by rw [hG] at h;unfold AH.ak;rw [h.1];rfl
 have r1 : ∀ {K},G K→K.ak H.n 1=some (.slice (q.map fun b=>(b,0)) so.length cp):=fun {K} h=>by rw [hG] at h;unfold AH.ak;rw [h.1];rfl
 have old : ∀ {K},G K→∀c,c<H.n→K.get c=H.get c:=fun {K} h=>by rw [hG] at h;exact h.2.2
 have d1:decide ((s.length:Int) > 4096)=false:=by rw [decide_eq_false_iff_not];omega
 have d2:decide ((so.length:Int) > 256)=false:=by rw [decide_eq_false_iff_not];omega
 have w6 : ∀i:Nat,i<so.length→IntKind.i64.wrap ((i:Int)+1)=((i+1:Nat):Int):=fun i hi=>by rw [wrap_i64 (by omega) (by omega)];omega
 refine ⟨(by trivial),s,r0 gA,?_⟩
 simp only [d1,cond_false]
 refine ⟨_,_,_,r1 gA,?_⟩
 simp only [d2,cond_false]
 refine ⟨s,r0 gA,(tX s n hn (by omega) A).mono ?_⟩
 rintro v B ⟨rfl,bn,bo⟩
 have gB:G B:=by
  have qG:=gA
  rw [hG] at qG ⊢
  exact ⟨by rw [bo _ qG.2.1];exact qG.1,by omega,fun c hc=>by rw [bo c (by omega)];exact qG.2.2 c hc⟩
 refine ⟨n,rfl,fun y K k=>∃i:Nat,y=(H.n,(n:Int),(i:Int))∧i≤so.length∧G K∧k=so.length - i,⟨(H.n,(n:Int),0),so.length,rfl,0,rfl,Nat.zero_le _,gB,rfl⟩,?_⟩
 rintro _ K _ ⟨i,rfl,hi,hK,rfl⟩
 simp only
 refine ⟨_,_,_,r1 hK,?_⟩
 by_cases fO:i<so.length
 ·have d:decide ((i:Int)<(so.length:Int))=true:=by rw [decide_eq_true_iff];omega
  simp only [d,cond_true]
  obtain ⟨b,rfl,iu⟩:=hq.span (old hK) fO
  refine ⟨_,_,_,r1 hK,b,0,⟨rfl,by omega,by omega⟩,_,_,_,_,iu,?_⟩
  refine (tW so[i] n).c7 ⟨_,rfl,?_⟩
  rw [hf _ (List.getElem_mem fO)]
  simp only [Bool.not_true,cond_false]
  exact ⟨(H.n,(n:Int),((i+1:Nat):Int)),so.length - (i+1),by omega,by rw [w6 i fO],i+1,rfl,by omega,hK,rfl⟩
 ·have d:decide ((i:Int)<(so.length:Int))=false:=by rw [decide_eq_false_iff_not];omega
  simp only [d,cond_false]
  refine ⟨fun y K k=>∃i:Nat,y=(H.n,(i:Int))∧i≤so.length∧G K∧k=so.length - i,⟨(H.n,0),so.length,rfl,0,rfl,Nat.zero_le _,hK,rfl⟩,?_⟩
  clear hK hi fO d
  rintro _ K _ ⟨i,rfl,hi,hK,rfl⟩
  simp only
  refine ⟨_,_,_,r1 hK,?_⟩
  by_cases fO:i<so.length
  ·have d:decide ((i:Int)<(so.length:Int))=true:=by rw [decide_eq_true_iff];omega
   simp only [d,cond_true]
   refine ⟨fun y K k=>∃j:Nat,y=(H.n,(i:Int),(j:Int))∧j≤i∧G K∧k=i - j,⟨(H.n,(i:Int),0),i,rfl,0,rfl,Nat.zero_le _,hK,rfl⟩,?_⟩
   clear hK
   rintro _ K _ ⟨j,rfl,hj,hK,rfl⟩
   simp only
   by_cases yY:j<i
   ·have d:decide ((j:Int)<(i:Int))=true:=by rw [decide_eq_true_iff];omega
    simp only [d,cond_true]
    obtain ⟨b,rfl,iu⟩:=hq.span (old hK) fO
    obtain ⟨b',e,uG⟩:=hq.span (old hK) (show j<so.length by omega)
    cases e
    refine ⟨_,_,_,r1 hK,b,0,⟨rfl,by omega,by omega⟩,_,_,_,_,iu,_,_,_,r1 hK,b,0,⟨rfl,by omega,by omega⟩,_,_,_,_,uG,?_⟩
    refine (rG so[i] so[j]).c7 ⟨_,rfl,?_⟩
    rw [hx _ (List.getElem_mem fO) _ (List.getElem_mem _)]
    simp only [cond_false]
    exact ⟨(H.n,(i:Int),((j+1:Nat):Int)),i - (j+1),by omega,by rw [w6 j (by omega)],j+1,rfl,by omega,hK,rfl⟩
   ·have d:decide ((j:Int)<(i:Int))=false:=by rw [decide_eq_false_iff_not];omega
    simp only [d,cond_false]
    exact ⟨(H.n,((i+1:Nat):Int)),so.length - (i+1),by omega,by rw [w6 i fO],i+1,rfl,by omega,hK,rfl⟩
  ·have d:decide ((i:Int)<(so.length:Int))=false:=by rw [decide_eq_false_iff_not];omega
   simp only [d,cond_false]
   refine ⟨trivial,?_,old hK⟩
   rw [hG] at hK
   omega
end Go.Proofs.YtlkdhhkncoekgaaGreatDoor
end
