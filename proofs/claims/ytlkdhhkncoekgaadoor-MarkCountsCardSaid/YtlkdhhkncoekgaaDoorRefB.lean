/- The document's texts with spans (chapter 7), by the reference's functions: signs counted, right spans, how a sign looks. -/
import Derived.Test.YtlkdhhkncoekgaaDoorRefA
import Derived.Test.YtlkdhhkncoekgaaDoorNormr
/- The signs of a text. -/
section
namespace Go.Proofs.YtlkdhhkncoekgaaDoor
open Go.Am Go
def dU (x:Nat×Nat×Nat×Bool):List AV:=[.int .i64 x.1,.int .i64 x.2.1,.int .i64 x.2.2.1,.bool x.2.2.2]
def JW (s:List UInt8) (m:Nat):Nat×Nat×Nat×Bool:=(place s m,(ah s (place s m)).2,(ah s (place s m)).1,vk s (place s m))
def yP (s:List UInt8) (n:Nat):List (Nat×Nat×Nat×Bool):=(List.range n).map (JW s)
theorem jY (s:List UInt8) (n:Nat):(yP s n).length=n:=by simp [yP]
theorem GR (s:List UInt8) (n:Nat):yP s (n+1)=yP s n ++ [JW s n]:=by simp [yP,List.range_succ]
theorem FW {H:AH} {q:Option Nat} {l:List (Nat×Nat×Nat×Bool)} {y:Nat×Nat×Nat×Bool} {c:Nat} {fl:Fl} (hl:bI H q l.length (flat dU l) 138) (hc:H.get c=some (.cells (dU y) 138 fl)) (hm:l.length≤1000000000) :
  ∃H',bZ Tryd.prog H 121 121 (sl q l.length) (.slice (some (c,0)) 1 1)=some (sl (some H.n) (l ++ [y]).length,H')∧H'.n=H.n+1∧bI H' (some H.n) (l ++ [y]).length (flat dU (l ++ [y])) 138∧∀c,c<H.n→q ≠ some c→H'.get c=H.get c :=
 eZ (mT:=32) (s:=4) (z:=.agg [.int .i64 0,.int .i64 0,.int .i64 0,.bool false]) (by kernel_rfl) (by kernel_rfl) (by kernel_rfl) (by kernel_rfl) rfl (by decide) (fun _=>rfl) (fun x=>by simp [dU,AV.one]) hl hc (by omega)
set_option maxRecDepth 100000 in
theorem Hj (s:List UInt8) (n:Nat) (hn:aD s n) (hs:s.length≤1000000000) (H:AH):az Tryd.prog 70 [.str s] H fun v H' =>
  ∃q,v=sl q n∧bI H' q n (flat dU (yP s n)) 138∧(∀b,q=some b→H.n≤b∧b<H'.n)∧H.n≤H'.n∧∀c,c<H.n→H'.get c=H.get c:=by
 have Ct:n≤s.length:=by have:=dJ hn.2;have:=hn.1;omega
 refine .inl ⟨aB (by kernel_rfl),ck (aT:=_) (dY:=_) au (Eq.mpr (EJ (real Tryd.prog) (Iter Tryd.prog) s H _) ?_)⟩
 simp only [bL,bq,aY,bh,aJ,cm,aL,fD,J6]
 obtain ⟨A,hA⟩ : ∃A,A=H.alloc (.cells (av s) 5 { fT:=true,kO:=true }):=⟨_,rfl⟩
 have Q4:gF Tryd.prog H 9 39 (.str s)=some (.slice (some (H.n,0)) s.length s.length,A):=by rw [hA];rfl
 obtain ⟨G,hG⟩ : ∃G:AH→Prop,G=fun K=>K.get H.n=some (.cells (av s) 5 { fT:=true,kO:=true })∧H.n<K.n∧∀c,c<H.n→K.get c=H.get c:=⟨_,rfl⟩
 have gA:G A:=by
  rw [hG,hA];exact ⟨by rw [AH.aa,if_pos rfl],by simp,fun c hc=>by rw [AH.aa,if_neg (by omega)]⟩
 refine ⟨_,_,_,A,Q4,fun y K k=>∃(m:Nat) (q:Option Nat),y=((H.n,s.length),(q.map (fun b=>(b,0)),m),((place s m:Nat):Int))∧m≤n∧G K∧bI K q m (flat dU (yP s m)) 138∧(∀b,q=some b→H.n<b∧b<K.n)∧k=n - m,
  ⟨((H.n,s.length),(none,0),0),n,rfl,0,none,rfl,Nat.zero_le _,gA,⟨rfl,rfl⟩,(fun b h=>by cases h),rfl⟩,?_⟩
 rintro _ K _ ⟨m,q,rfl,hm,hK,hl,hq,rfl⟩
 simp only
 have v9:=hK
 rw [hG] at v9
 obtain ⟨k1,k2,k3⟩:=v9
 by_cases At:m<n
 ·have hp:=hn.2 m At
  have d:decide (((place s m:Nat):Int)<(s.length:Int))=true:=by rw [decide_eq_true_iff];omega
  simp only [d,cond_true]
  refine (Nm k1 k2 hp (by omega)).mono ?_
  rintro v K1 ⟨rfl,n1,o1⟩
  have ND:K1.get H.n=_:=(o1 _ k2).trans k1
  obtain ⟨x,hx⟩ : ∃x,x=JW s m:=⟨_,rfl⟩
  obtain ⟨B,hB⟩ : ∃B,B=(K1.alloc (.cells [.int .i64 0,.int .i64 0,.int .i64 0,.bool false] 138 { whole:=true })).set K1.n (.cells (dU x) 138 { whole:=true }):=⟨_,rfl⟩
  have bg:B.get K1.n=some (.cells (dU x) 138 { whole:=true }):=by rw [hB,AH.af,if_pos rfl]
  have bo : ∀c,c<K1.n→B.get c=K1.get c:=fun c hc=>by rw [hB,AH.af,if_neg (by omega),AH.aa,if_neg (by omega)]
  have bn:B.n=K1.n+1:=by rw [hB];rfl
  obtain ⟨C,hC⟩ : ∃C,C=B.alloc (.cells (dU x) 138 { whole:=true }):=⟨_,rfl⟩
  have cg:C.get B.n=some (.cells (dU x) 138 { whole:=true }):=by rw [hC,AH.aa,if_pos rfl]
  have co : ∀c,c<B.n→C.get c=B.get c:=fun c hc=>by rw [hC,AH.aa,if_neg (by omega)]
  have cn:C.n=B.n+1:=by rw [hC];rfl
  have NX:bI C q (yP s m).length (flat dU (yP s m)) 138:=by
   rw [jY]
   exact hl.same fun b hb=>by have:=hq b hb;rw [co b (by omega),bo b (by omega),o1 b (by omega)]
  obtain ⟨H5,a1,a2,a3,a4⟩:=FW (y:=x) NX cg (by rw [jY];omega)
  rw [jY] at a1
  have al:(yP s m ++ [x]).length=m+1:=by simp [jY]
  rw [al] at a1 a3
  refine ⟨_,_,_,_,rfl,rfl,B,by rw [hB,hx];simp [AH.write,AH.aa,ax,AV.one,dU,JW],x.1,x.2.1,x.2.2.1,x.2.2.2,by simp [AH.read,bg,dU],by decide,some (C.n,0),m+1,m+1,H5,?_,x.2.1,?_,((H.n,s.length),(some (C.n,0),m+1),((place s (m+1):Nat):Int)),n - (m+1),by omega,?_,m+1,some C.n,rfl,by omega,?_,?_,?_,rfl⟩
  ·rw [hC] at a1 ⊢;exact a1
  ·unfold AH.ak
   rw [a4 K1.n (by omega) (fun e=>by have:=hq _ e;omega),co _ (by omega),bg];rfl
  ·have hle:=iq hp
   have e:(place s m:Int)+(x.2.1:Int)=((place s (m+1):Nat):Int):=by rw [hx];show (place s m:Int)+((ah s (place s m)).2:Int)=((place s m+(ah s (place s m)).2:Nat):Int);omega
   rw [e,wrap_i64 (by omega) (by omega)]
  ·rw [hG]
   refine ⟨?_,by omega,fun c hc=>?_⟩
   ·rw [a4 _ (by omega) (fun e=>by have:=hq _ e;omega),co _ (by omega),bo _ (by omega)];exact ND
   ·rw [a4 _ (by omega) (fun e=>by have:=hq _ e;omega),co _ (by omega),bo _ (by omega),o1 _ (by omega)];exact k3 c hc
  ·rw [GR,← hx];exact a3
  ·rintro b hb;cases hb;omega
 ·obtain rfl:m=n:=by omega
  have d:decide (((place s m:Nat):Int)<(s.length:Int))=false:=by rw [decide_eq_false_iff_not];have:=hn.1;omega
  simp only [d,cond_false]
  exact ⟨q,rfl,hl,fun b hb=>by have:=hq b hb;omega,by omega,k3⟩
theorem zQ (s:List UInt8) (n:Nat) (hn:aD s n) (hs:s.length≤1000000000) (H:AH):az Tryd.prog 41 [.str s] H fun v H'=>v=.int .i64 n∧H.n≤H'.n∧∀c,c<H.n→H'.get c=H.get c:=by
 refine .inl ⟨aB (by kernel_rfl),ew (aT:=[]) au ?_⟩
 rw [EN]
 refine (Hj s n hn hs H).mono ?_
 rintro v H' ⟨q,rfl,_,_,h1,h2⟩
 exact ⟨_,_,_,rfl,rfl,h1,h2⟩
end Go.Proofs.YtlkdhhkncoekgaaDoor
end
/- Spans: right ones, ones that cross. -/
section
namespace Go.Proofs.YtlkdhhkncoekgaaDoor
open Go.Am Go
theorem j5 (x y:ay):Pure Tryd.prog 71 [.agg x.cells,.agg y.cells] (.bool (bw x y)):=by
 refine Pure.fU au [] (by kernel_rfl) (by simp [AV.dc,AV.bY,ay.cells]) rfl ?_
 show gP _ _ _ _ [.agg [.int .i64 x.f,.int .i64 x.t,.int .i64 x.k,.int .i64 x.v],.agg [.int .i64 y.f,.int .i64 y.t,.int .i64 y.k,.int .i64 y.v]] _ _
 rw [BV]
 simp [AH.ak,AH.aa,bw]
theorem zP (x y:ay):Pure Tryd.prog 57 [.agg x.cells,.agg y.cells] (.bool (bu x y)):=by
 refine Pure.fU au [] (by kernel_rfl) (by simp [AV.dc,AV.bY,ay.cells]) rfl ?_
 show gP _ _ _ _ [.agg [.int .i64 x.f,.int .i64 x.t,.int .i64 x.k,.int .i64 x.v],.agg [.int .i64 y.f,.int .i64 y.t,.int .i64 y.k,.int .i64 y.v]] _ _
 rw [EM]
 simp only [bL,bq,aY,bh,aJ]
 obtain ⟨A,hA⟩ : ∃A,A=((aR Tryd.prog).alloc (.cells [.int .i64 x.f,.int .i64 x.t,.int .i64 x.k,.int .i64 x.v] 41 { whole:=true })).alloc (.cells [.int .i64 y.f,.int .i64 y.t,.int .i64 y.k,.int .i64 y.v] 41 { whole:=true }):=⟨_,rfl⟩
 have an:((aR Tryd.prog).alloc (.cells [.int .i64 x.f,.int .i64 x.t,.int .i64 x.k,.int .i64 x.v] 41 { whole:=true })).n=(aR Tryd.prog).n+1:=rfl
 rw [← hA,an]
 have gx:A.get (aR Tryd.prog).n=some (.cells x.cells 41 { whole:=true }):=by rw [hA,AH.aa,if_neg (by simp only [AH.aC];omega),AH.aa,if_pos rfl];rfl
 have gy:A.get ((aR Tryd.prog).n+1)=some (.cells y.cells 41 { whole:=true }):=by rw [hA,AH.aa,if_pos an.symm];rfl
 have rx:A.read (aR Tryd.prog).n 0 4=some [.int .i64 x.f,.int .i64 x.t,.int .i64 x.k,.int .i64 x.v]:=by unfold AH.read;rw [gx];rfl
 have ry:A.read ((aR Tryd.prog).n+1) 0 4=some [.int .i64 y.f,.int .i64 y.t,.int .i64 y.k,.int .i64 y.v]:=by unfold AH.read;rw [gy];rfl
 refine ⟨(by trivial),(by trivial),x.f,by unfold AH.ak;rw [gx];rfl,y.t,by unfold AH.ak;rw [gy];rfl,y.f,by unfold AH.ak;rw [gy];rfl,x.t,by unfold AH.ak;rw [gx];rfl,x.f,x.t,x.k,x.v,rx,y.f,y.t,y.k,y.v,ry,?_⟩
 have tt:(true == true)=true:=rfl
 have ff:(false == true)=false:=rfl
 unfold bu
 cases h1:(decide (x.f<y.t) && decide (y.f<x.t)) with
 | false =>
  simp only [ff,cond_false]
  exact ⟨y.f,y.t,y.k,y.v,ry,x.f,x.t,x.k,x.v,rx,rfl⟩
 | true =>
  simp only [tt,cond_true]
  refine (j5 x y).dS ⟨_,rfl,y.f,y.t,y.k,y.v,ry,x.f,x.t,x.k,x.v,rx,?_⟩
  cases h2:bw x y with
  | true=>rfl
  | false =>
   have nt:((!false) == true)=true:=rfl
   simp only [nt,cond_true]
   exact (j5 y x).dS ⟨_,rfl,rfl⟩
theorem BY (x:ay) (n:Int):Pure Tryd.prog 56 [.agg x.cells,.int .i64 n] (.bool (dO x n)):=by
 refine Pure.fU au [] (by kernel_rfl) (by simp [AV.dc,AV.bY,ay.cells]) rfl ?_
 show gP _ _ _ _ [.agg [.int .i64 x.f,.int .i64 x.t,.int .i64 x.k,.int .i64 x.v],.int .i64 n] _ _
 rw [Hr]
 simp only [bL,bq,aY]
 obtain ⟨A,hA⟩ : ∃A,A=(aR Tryd.prog).alloc (.cells [.int .i64 x.f,.int .i64 x.t,.int .i64 x.k,.int .i64 x.v] 41 { whole:=true }):=⟨_,rfl⟩
 rw [← hA]
 have gx:A.get (aR Tryd.prog).n=some (.cells x.cells 41 { whole:=true }):=by rw [hA,AH.aa,if_pos rfl];rfl
 have r0:A.ak (aR Tryd.prog).n 0=some (.int .i64 x.f):=by unfold AH.ak;rw [gx];rfl
 have r1:A.ak (aR Tryd.prog).n 1=some (.int .i64 x.t):=by unfold AH.ak;rw [gx];rfl
 have r2:A.ak (aR Tryd.prog).n 2=some (.int .i64 x.k):=by unfold AH.ak;rw [gx];rfl
 have r3:A.ak (aR Tryd.prog).n 3=some (.int .i64 x.v):=by unfold AH.ak;rw [gx];rfl
 refine ⟨(by trivial),x.f,r0,x.t,r1,x.f,r0,x.t,r1,x.k,r2,x.k,r2,?_⟩
 unfold dO
 cases h1:(decide (x.f<0) || decide (x.t > n) || decide (x.f≥x.t) || decide (x.k<1) || decide (x.k > 5)) with
 | true=>rfl
 | false =>
  simp only [cond_false]
  refine ⟨x.k,r2,?_⟩
  cases h2:(x.k == 5) with
  | true=>exact ⟨x.v,r3,x.v,r3,rfl⟩
  | false=>exact ⟨x.v,r3,rfl⟩
theorem CI {x:ay} {n:Int} (h:dO x n=true) : -1000000000≤x.v∧x.v≤1000000000:=by
 unfold dO at h
 cases h1:(decide (x.f<0) || decide (x.t > n) || decide (x.f≥x.t) || decide (x.k<1) || decide (x.k > 5)) with
 | true=>rw [h1] at h;cases h
 | false =>
  rw [h1] at h
  simp only [cond_false] at h
  cases h2:(x.k == 5) with
  | true =>
   rw [h2] at h
   simp only [cond_true,Bool.and_eq_true,decide_eq_true_eq] at h
   omega
  | false =>
   rw [h2] at h
   simp only [cond_false,beq_iff_eq] at h
   omega
def fL (H:AH) (q:Option Nat) (so:List ay):Prop :=
 (match q with
 | none=>so=[]
 | some b=>∃fl,H.get b=some (.cells (flat ay.cells so) 41 fl))∧∀b,q=some b→b<H.n
theorem fL.of {H:AH} {q:Option Nat} {so:List ay} (h:bI H q so.length (flat ay.cells so) 41) (hb : ∀b,q=some b→b<H.n):fL H q so:=by
 refine ⟨?_,hb⟩
 cases q with
 | none=>exact List.length_eq_zero_iff.1 h.1
 | some b=>exact ⟨_,h⟩
def Jf (H:AH) (q:Option Nat) (so:List ay):Prop:=bI H q so.length (flat ay.cells so) 41∧∀b,q=some b→b<H.n
theorem Jf.text {H:AH} {q:Option Nat} {so:List ay} (h:Jf H q so):fL H q so:=.of h.1 h.2
theorem fL.gM {H H' : AH} {q:Option Nat} {so:List ay} (h:fL H q so) (hn:H.n≤H'.n) (k : ∀c,c<H.n→H'.get c=H.get c):fL H' q so:=by
 refine ⟨?_,fun b hb=>by have:=h.2 b hb;omega⟩
 have h1:=h.1
 cases q with
 | none=>exact h1
 | some b=>obtain ⟨fl,h1⟩:=h1;exact ⟨fl,(k b (h.2 b rfl)).trans h1⟩
def iG (H:AH) (q:Option Nat) (cp:Nat) (so:List ay):Prop :=
 (match q with
 | none=>so=[]∧cp=0
 | some b=>∃e fl more,H.get b=some (.cells (flat ay.cells (so ++ more)) e fl)∧cp=(so ++ more).length)∧∀b,q=some b→b<H.n
theorem fL.sp {H:AH} {q:Option Nat} {so:List ay} (h:fL H q so):iG H q so.length so:=by
 refine ⟨?_,h.2⟩
 have h1:=h.1
 cases q with
 | none=>have e:so=[]:=h1;rw [e];exact ⟨rfl,rfl⟩
 | some b=>obtain ⟨fl,h1⟩:=h1;exact ⟨41,fl,[],by rw [List.append_nil];exact h1,by rw [List.append_nil]⟩
theorem iG.le {H:AH} {q:Option Nat} {cp:Nat} {so:List ay} (h:iG H q cp so):so.length≤cp:=by
 have h1:=h.1
 cases q with
 | none=>obtain ⟨e,_⟩ : so=[]∧cp=0:=h1;rw [e];exact Nat.zero_le _
 | some b=>obtain ⟨e,fl,more,_,h2⟩:=h1;rw [h2,List.length_append];omega
theorem iG.gM {H H' : AH} {q:Option Nat} {cp:Nat} {so:List ay} (h:iG H q cp so) (hn:H.n≤H'.n) (k : ∀c,c<H.n→H'.get c=H.get c):iG H' q cp so:=by
 refine ⟨?_,fun b hb=>by have:=h.2 b hb;omega⟩
 have h1:=h.1
 cases q with
 | none=>exact h1
 | some b=>obtain ⟨e,fl,more,h1,h2⟩:=h1;exact ⟨e,fl,more,(k b (h.2 b rfl)).trans h1,h2⟩
theorem iG.span {H:AH} {q:Option Nat} {cp:Nat} {so:List ay} (h:iG H q cp so) {K:AH} (k : ∀c,c<H.n→K.get c=H.get c) {i:Nat} (hi:i<so.length) : ∃b,q=some b∧K.read b (0+((i:Nat):Int).toNat*4) 4=some [.int .i64 so[i].f,.int .i64 so[i].t,.int .i64 so[i].k,.int .i64 so[i].v]:=by
 obtain ⟨h1,h2⟩:=h
 cases q with
 | none=>obtain ⟨e,_⟩ : so=[]∧cp=0:=h1;rw [e] at hi;cases hi
 | some b =>
  obtain ⟨e,fl,more,hb,_⟩ : ∃e fl more,H.get b=some (.cells (flat ay.cells (so ++ more)) e fl)∧cp=(so ++ more).length:=h1
  have Av:i<(so ++ more).length:=by rw [List.length_append];omega
  have:=dr ay.aG (H:=K) (b:=b) (i:=i) (by rw [k b (h2 b rfl)];exact hb) Av
  rw [List.getElem_append_left hi] at this
  exact ⟨b,rfl,this⟩
theorem fL.span {H:AH} {q:Option Nat} {so:List ay} (h:fL H q so) {K:AH} (k : ∀c,c<H.n→K.get c=H.get c) {i:Nat} (hi:i<so.length) : ∃b,q=some b∧K.read b (0+((i:Nat):Int).toNat*4) 4=some [.int .i64 so[i].f,.int .i64 so[i].t,.int .i64 so[i].k,.int .i64 so[i].v]:=h.sp.span k hi
end Go.Proofs.YtlkdhhkncoekgaaDoor
end
