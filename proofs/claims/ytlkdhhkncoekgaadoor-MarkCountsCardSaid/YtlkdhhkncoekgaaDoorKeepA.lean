/- Right texts, as style.Check tells them. -/
import Derived.Test.YtlkdhhkncoekgaaDoorRefB
import Derived.Test.YtlkdhhkncoekgaaDoorOutL
import Derived.Test.YtlkdhhkncoekgaaDoorKeepVc
namespace Go.Proofs.YtlkdhhkncoekgaaDoor
open Go.Am Go
theorem oz (x y:ay):Pure Tryd.prog 85 [.agg x.cells,.agg y.cells] (.bool (bw x y)):=by
 refine Pure.fU au [] (by kernel_rfl) (by simp [AV.dc,AV.bY,ay.cells]) rfl ?_
 show gP _ _ _ _ [.agg [.int .i64 x.f,.int .i64 x.t,.int .i64 x.k,.int .i64 x.v],.agg [.int .i64 y.f,.int .i64 y.t,.int .i64 y.k,.int .i64 y.v]] _ _
 rw [BC]
 simp [AH.ak,AH.aa,bw]
theorem uZ (x y:ay):Pure Tryd.prog 66 [.agg x.cells,.agg y.cells] (.bool (bu x y)):=by
 refine Pure.fU au [] (by kernel_rfl) (by simp [AV.dc,AV.bY,ay.cells]) rfl ?_
 show gP _ _ _ _ [.agg [.int .i64 x.f,.int .i64 x.t,.int .i64 x.k,.int .i64 x.v],.agg [.int .i64 y.f,.int .i64 y.t,.int .i64 y.k,.int .i64 y.v]] _ _
 rw [zn]
 simp only [bL,bq,aY,bh,aJ]
 obtain ⟨A,hA⟩ : ∃A,A=((aR Tryd.prog).alloc (.cells [.int .i64 x.f,.int .i64 x.t,.int .i64 x.k,.int .i64 x.v] 41 { whole:=true })).alloc (.cells [.int .i64 y.f,.int .i64 y.t,.int .i64 y.k,.int .i64 y.v] 41 { whole:=true }):=⟨_,rfl⟩
 have an:((aR Tryd.prog).alloc (.cells [.int .i64 x.f,.int .i64 x.t,.int .i64 x.k,.int .i64 x.v] 41 { whole:=true })).n=(aR Tryd.prog).n+1:=rfl
 rw [← hA,an]
 have gx:A.get (aR Tryd.prog).n=some (.cells x.cells 41 { whole:=true }):=by rw [hA,AH.aa,if_neg (by simp only [AH.aC];omega),AH.aa,if_pos rfl];rfl
 have gy:A.get ((aR Tryd.prog).n+1)=some (.cells y.cells 41 { whole:=true }):=by rw [hA,AH.aa,if_pos an.symm];rfl
 have rx:A.read (aR Tryd.prog).n 0 4=some [.int .i64 x.f,.int .i64 x.t,.int .i64 x.k,.int .i64 x.v]:=by unfold AH.read;rw [gx];rfl
 have ry:A.read ((aR Tryd.prog).n+1) 0 4=some [.int .i64 y.f,.int .i64 y.t,.int .i64 y.k,.int .i64 y.v]:=by unfold AH.read;rw [gy];rfl
 refine ⟨(by trivial),(by trivial),x.f,by unfold AH.ak;rw [gx];rfl,y.t,by unfold AH.ak;rw [gy];rfl,y.f,by unfold AH.ak;rw [gy];rfl,x.t,by unfold AH.ak;rw [gx];rfl,x.f,x.t,x.k,x.v,rx,y.f,y.t,y.k,y.v,ry,?_⟩
 have tt:(true == true)=true:=rfl
 have ff:(false == true)=false:=rfl
 unfold bu
 cases h1:(decide (x.f<y.t) && decide (y.f<x.t)) with
 | false =>
  simp only [ff,cond_false]
  exact ⟨y.f,y.t,y.k,y.v,ry,x.f,x.t,x.k,x.v,rx,rfl⟩
 | true =>
  simp only [tt,cond_true]
  refine (oz x y).dS ⟨_,rfl,y.f,y.t,y.k,y.v,ry,x.f,x.t,x.k,x.v,rx,?_⟩
  cases h2:bw x y with
  | true=>rfl
  | false =>
   have nt:((!false) == true)=true:=rfl
   simp only [nt,cond_true]
   exact (oz y x).dS ⟨_,rfl,rfl⟩
theorem zm (x:ay) (n:Int):Pure Tryd.prog 63 [.agg x.cells,.int .i64 n] (.bool (dO x n)):=by
 refine Pure.fU au [] (by kernel_rfl) (by simp [AV.dc,AV.bY,ay.cells]) rfl ?_
 show gP _ _ _ _ [.agg [.int .i64 x.f,.int .i64 x.t,.int .i64 x.k,.int .i64 x.v],.int .i64 n] _ _
 rw [Ev]
 simp only [bL,bq,aY]
 obtain ⟨A,hA⟩ : ∃A,A=(aR Tryd.prog).alloc (.cells [.int .i64 x.f,.int .i64 x.t,.int .i64 x.k,.int .i64 x.v] 41 { whole:=true }):=⟨_,rfl⟩
 rw [← hA]
 have gx:A.get (aR Tryd.prog).n=some (.cells [.int .i64 x.f,.int .i64 x.t,.int .i64 x.k,.int .i64 x.v] 41 { whole:=true }):=by rw [hA,AH.aa,if_pos rfl]
 have r0:A.ak (aR Tryd.prog).n 0=some (.int .i64 x.f):=by unfold AH.ak;rw [gx];rfl
 have r1:A.ak (aR Tryd.prog).n 1=some (.int .i64 x.t):=by unfold AH.ak;rw [gx];rfl
 have r2:A.ak (aR Tryd.prog).n 2=some (.int .i64 x.k):=by unfold AH.ak;rw [gx];rfl
 have r3:A.ak (aR Tryd.prog).n 3=some (.int .i64 x.v):=by unfold AH.ak;rw [gx];rfl
 refine ⟨(by trivial),x.f,r0,x.t,r1,x.f,r0,x.t,r1,x.k,r2,x.k,r2,?_⟩
 unfold dO
 have e:(decide (x.f<0) || decide (x.t≤x.f) || decide (x.t > n) || decide (x.k<1) || decide (x.k > 5))=(decide (x.f<0) || decide (x.t > n) || decide (x.f≥x.t) || decide (x.k<1) || decide (x.k > 5)):=by
  rw [Bool.eq_iff_iff];simp only [Bool.or_eq_true,decide_eq_true_eq];omega
 rw [e]
 cases h1:(decide (x.f<0) || decide (x.t > n) || decide (x.f≥x.t) || decide (x.k<1) || decide (x.k > 5)) with
 | true=>rfl
 | false =>
  simp only [cond_false]
  refine ⟨x.k,r2,?_⟩
  cases h2:(x.k == 5) with
  | true=>exact ⟨x.v,r3,x.v,r3,rfl⟩
  | false=>exact ⟨x.v,r3,rfl⟩
theorem J3 {H:AH} {p:Nat} {x y:ay} {fl:Fl} (h:H.get p=some (.cells x.cells 41 fl)) (hp:p<H.n) :
  az Tryd.prog 65 [.agg y.cells,.ptr (some (p,0))] H fun v H'=>v=.bool (bu x y)∧H.n≤H'.n∧∀c,c<H.n→H'.get c=H.get c:=by
 refine .inl ⟨aB (by kernel_rfl),ew (aT:=[]) au ?_⟩
 show gP _ _ _ _ [.agg [.int .i64 y.f,.int .i64 y.t,.int .i64 y.k,.int .i64 y.v],.ptr (some (p,0))] _ _
 rw [G2]
 simp only [bL,bq,bh,aJ]
 refine ⟨(by trivial),x.f,x.t,x.k,x.v,?_,y.f,y.t,y.k,y.v,?_,?_⟩
 ·unfold AH.read;rw [AH.aa,if_neg (by omega),h];rfl
 ·unfold AH.read;rw [AH.aa,if_pos rfl];rfl
 refine (uZ x y).dS ⟨_,rfl,rfl,by simp,fun c hc=>by rw [AH.aa,if_neg (by omega)]⟩
def D8 (x:ay) (l:List ay):Prop:=∀y ∈ l,bu x y=false
set_option maxRecDepth 100000 in
theorem Ni {H:AH} {p:Nat} {x:ay} {fl:Fl} (h:H.get p=some (.cells x.cells 41 fl)) (hp:p<H.n) {q:Option Nat} {cp:Nat} {so:List ay} (hl:so.length≤100000) (hq:iG H q cp so) {i:Nat} (hi:i≤so.length) (c:Nat) (hx:D8 x so) :
  az Tryd.prog 84 [.slice (q.map fun b=>(b,0)) i c,.func (.func 65) [] [.ptr (some (p,0))]] H fun v H'=>v=.int .i64 (-1)∧H.n≤H'.n∧∀c,c<H.n→H'.get c=H.get c:=by
 refine .inl ⟨aB (by kernel_rfl),ck (aT:=_) (dY:=_) au (Eq.mpr (JZ (real Tryd.prog) (Iter Tryd.prog) (q.map fun b=>(b,0)) i c p H _) ?_)⟩
 simp only [bh,aJ,aL]
 refine ⟨fun y K k=>∃m:Nat,y=(m:Int)∧m≤i∧H.n≤K.n∧(∀c,c<H.n→K.get c=H.get c)∧k=i - m,⟨0,i,rfl,0,rfl,Nat.zero_le _,Nat.le_refl _,fun _ _=>rfl,rfl⟩,?_⟩
 rintro _ K _ ⟨m,rfl,hm,hn,ho,rfl⟩
 by_cases hmi:m<i
 ·have d:decide ((m:Int)<(i:Int))=true:=by rw [decide_eq_true_iff];omega
  simp only [d,cond_true]
  obtain ⟨b,rfl,kR⟩:=hq.span ho (i:=m) (by omega)
  refine ⟨b,0,⟨rfl,by omega,by omega⟩,_,_,_,_,kR,?_⟩
  refine (J3 (x:=x) (y:=so[m]) (fl:=fl) (by rw [ho p hp];exact h) (by omega)).mono ?_
  rintro v K2 ⟨rfl,k1,k2⟩
  refine ⟨_,rfl,?_⟩
  rw [hx _ (List.getElem_mem _)]
  exact ⟨((m+1:Nat):Int),i - (m+1),by omega,by rw [wrap_i64 (by omega) (by omega)];rfl,m+1,rfl,by omega,by omega,fun c hc=>by rw [k2 c (by omega)];exact ho c hc,rfl⟩
 ·have d:decide ((m:Int)<(i:Int))=false:=by rw [decide_eq_false_iff_not];omega
  simp only [d,cond_false]
  exact ⟨by trivial,hn,ho⟩
theorem J0 {H:AH} {p:Nat} {x:ay} {fl:Fl} (h:H.get p=some (.cells x.cells 41 fl)) (hp:p<H.n) {q:Option Nat} {cp:Nat} {so:List ay} (hl:so.length≤100000) (hq:iG H q cp so) {i:Nat} (hi:i≤so.length) (c:Nat) (hx:D8 x so) :
  az Tryd.prog 64 [.slice (q.map fun b=>(b,0)) i c,.func (.func 65) [] [.ptr (some (p,0))]] H fun v H'=>v=.bool false∧H.n≤H'.n∧∀c,c<H.n→H'.get c=H.get c:=by
 refine .inl ⟨aB (by kernel_rfl),ew (aT:=[]) au ?_⟩
 rw [G0]
 refine (Ni h hp hl hq hi c hx).mono ?_
 rintro v K ⟨rfl,k1,k2⟩
 exact ⟨-1,rfl,rfl,k1,k2⟩
theorem zi (K:AH) (q:Option Nat) (i k c:Nat) (h:i≤k) (hc:k≤c):cJ Tryd.prog K 24 (.slice (q.map fun b=>(b,0)) k c) none (some (.int .i64 (i:Int))) none=some (.slice (q.map fun b=>(b,0)) i c):=by
 have t1:Tryd.prog.underlying 24=some (.slice 41):=by kernel_rfl
 have t2:bX Tryd.prog 41=some 4:=by kernel_rfl
 unfold cJ
 simp only [t1,t2,fR,Option.bind_some,Option.map_some]
 rw [if_pos (Int.natCast_nonneg _),Int.toNat_natCast]
 simp only [Option.bind_some]
 rw [if_pos ⟨Nat.zero_le _,by omega,by omega,fun e=>by cases e⟩]
 cases q <;> simp
set_option maxRecDepth 100000 in
theorem zu (s:List UInt8) (n:Nat) (hn:aD s n) (hs:s.length≤4096) {so:List ay} (hl:so.length≤256) (hf : ∀x ∈ so,dO x n=true) (hx : ∀x ∈ so,∀y ∈ so,bu x y=false) {H:AH} {q:Option Nat} {cp:Nat} (hq:iG H q cp so) :
  az Tryd.prog 36 [.agg [.str s,.slice (q.map fun b=>(b,0)) so.length cp]] H fun v H'=>v=.int .i64 0∧H.n≤H'.n∧∀c,c<H.n→H'.get c=H.get c:=by
 refine .inl ⟨aB (by kernel_rfl),ck (aT:=_) (dY:=_) au (Eq.mpr (Ez (real Tryd.prog) (Iter Tryd.prog) s (q.map fun b=>(b,0)) so.length cp H _) ?_)⟩
 simp only [bL,bq,aY,bh,aJ,aL,cm,lA]
 obtain ⟨A,hA⟩ : ∃A,A=H.alloc (.cells [.str s,.slice (q.map fun b=>(b,0)) so.length cp] 26 { whole:=true }):=⟨_,rfl⟩
 rw [← hA]
 obtain ⟨G,hG⟩ : ∃G:AH→Prop,G=fun K=>K.get H.n=some (.cells [.str s,.slice (q.map fun b=>(b,0)) so.length cp] 26 { whole:=true })∧H.n<K.n∧∀c,c<H.n→K.get c=H.get c:=⟨_,rfl⟩
 have gA:G A:=by
  rw [hG,hA];exact ⟨by rw [AH.aa,if_pos rfl],by simp,fun c hc=>by rw [AH.aa,if_neg (by omega)]⟩
 have DK : ∀ {K K2:AH},G K→K.n≤K2.n→(∀c,c<K.n→K2.get c=K.get c)→G K2:=by
  intro K K2 h h1 h2
  rw [hG] at h ⊢
  exact ⟨by rw [h2 _ h.2.1];exact h.1,by omega,fun c hc=>by rw [h2 c (by omega)];exact h.2.2 c hc⟩
 have r0 : ∀ {K},G K→K.ak H.n 0=some (.str s):=fun {K} h=>by rw [hG] at h;unfold AH.ak;rw [h.1];rfl
 have r1 : ∀ {K},G K→K.ak H.n 1=some (.slice (q.map fun b=>(b,0)) so.length cp):=fun {K} h=>by rw [hG] at h;unfold AH.ak;rw [h.1];rfl
 have old : ∀ {K},G K→∀c,c<H.n→K.get c=H.get c:=fun {K} h=>by rw [hG] at h;exact h.2.2
 have wJ : ∀ {K},G K→H.n<K.n:=fun {K} h=>by rw [hG] at h;exact h.2.1
 have d1:decide ((s.length:Int) > 4096)=false:=by rw [decide_eq_false_iff_not];omega
 have d2:decide ((so.length:Int) > 256)=false:=by rw [decide_eq_false_iff_not];omega
 refine ⟨(by trivial),s,r0 gA,?_⟩
 simp only [d1,cond_false]
 refine ⟨_,_,_,r1 gA,?_⟩
 simp only [d2,cond_false]
 refine ⟨s,r0 gA,(oc s n hn (by omega)).dS ⟨n,rfl,_,_,_,r1 gA,?_⟩⟩
 refine ⟨fun y K k=>∃i:Nat,y=(H.n,(n:Int),(q.map (fun b=>(b,0)),so.length,cp),(so.length:Int),(i:Int))∧i≤so.length∧G K∧k=so.length - i,
  ⟨(H.n,(n:Int),(q.map (fun b=>(b,0)),so.length,cp),(so.length:Int),0),so.length,rfl,0,rfl,Nat.zero_le _,gA,rfl⟩,?_⟩
 rintro _ K _ ⟨i,rfl,hi,hK,rfl⟩
 simp only
 by_cases iX:i<so.length
 ·have d:decide ((i:Int)<(so.length:Int))=true:=by rw [decide_eq_true_iff];omega
  simp only [d,cond_true]
  obtain ⟨b,hb,kR⟩:=hq.span (old hK) iX
  have Zx:q.map (fun b=>(b,0))=some (b,0):=by rw [hb];rfl
  obtain ⟨B,hB⟩ : ∃B,B=(K.alloc (.cells [.int .i64 0,.int .i64 0,.int .i64 0,.int .i64 0] 41 { whole:=true })).set K.n (.cells so[i].cells 41 { whole:=true }):=⟨_,rfl⟩
  have bg:B.get K.n=some (.cells so[i].cells 41 { whole:=true }):=by rw [hB,AH.af,if_pos rfl]
  have bo : ∀c,c<K.n→B.get c=K.get c:=fun c hc=>by rw [hB,AH.af,if_neg (by omega),AH.aa,if_neg (by omega)]
  have bn:B.n=K.n+1:=by rw [hB];simp
  have gB:G B:=DK hK (by omega) bo
  have rB:B.read K.n 0 4=some [.int .i64 so[i].f,.int .i64 so[i].t,.int .i64 so[i].k,.int .i64 so[i].v]:=by unfold AH.read;rw [bg];rfl
  refine ⟨b,0,⟨Zx,by omega,by omega⟩,_,_,_,_,kR,rfl,B,by rw [hB];simp [AH.write,AH.aa,ax,AV.one,ay.cells],?_⟩
  refine ⟨fun y K2=>y=((H.n,(n:Int),(q.map (fun b=>(b,0)),so.length,cp),(so.length:Int),(i:Int)),false)∧G K2,⟨_,_,_,_,rB,?_⟩,?_⟩
  ·refine (zm so[i] n).dS ⟨_,rfl,?_⟩
   rw [hf _ (List.getElem_mem iX)]
   refine ⟨_,_,_,r1 gB,_,_,_,fun _=>zi B q i so.length cp hi hq.le,?_⟩
   have e:((!true) == false)=true:=rfl
   rw [e]
   simp only [cond_true]
   refine (J0 (x:=so[i]) bg (by omega) (by omega) (hq.gM (by have:=wJ gB;omega) (old gB)) hi cp fun y hy=>hx _ (List.getElem_mem iX) _ hy).mono ?_
   rintro v C ⟨rfl,c1,c2⟩
   exact ⟨false,rfl,_,0,trivial,rfl,rfl,DK gB c1 c2⟩
  ·rintro _ K2 ⟨rfl,DI⟩
   simp only [cond_false]
   exact ⟨(H.n,(n:Int),(q.map (fun b=>(b,0)),so.length,cp),(so.length:Int),((i+1:Nat):Int)),so.length - (i+1),by omega,by rw [wrap_i64 (by omega) (by omega)];rfl,i+1,rfl,by omega,DI,rfl⟩
 ·have d:decide ((i:Int)<(so.length:Int))=false:=by rw [decide_eq_false_iff_not];omega
  simp only [d,cond_false]
  exact ⟨by trivial,by have:=wJ hK;omega,old hK⟩
end Go.Proofs.YtlkdhhkncoekgaaDoor
