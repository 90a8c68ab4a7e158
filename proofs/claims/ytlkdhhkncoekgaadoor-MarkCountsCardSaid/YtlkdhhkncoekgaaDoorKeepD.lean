/- The signs and their looks, as style.Signs hands them out. -/
import Derived.Test.YtlkdhhkncoekgaaDoorKeepC
namespace Go.Proofs.YtlkdhhkncoekgaaDoor
open Go.Am Go
def D7 (s:List UInt8) (q:Option (Nat×Nat)) (k c:Nat) (L:Nat→aj) (n p r b:Nat) (K:AH):Prop :=
 K.get p=some (.cells [.str s,.slice q k c] 26 { whole:=true })∧K.get r=some (.cells [.slice (some (b,0)) n n] 50 { whole:=true })∧K.get b=some (.cells (flat aj.cells (cO n L)) 53 {})
theorem GX (s:List UInt8) (n:Nat) (hn:aD s n) (hs:s.length≤4096) {so:List ay} (hl:so.length≤256) (hf : ∀x ∈ so,dO x n=true) (hx : ∀x ∈ so,∀y ∈ so,bu x y=false) {H:AH} {q:Option Nat} {cp:Nat} (hq:iG H q cp so) :
  az Tryd.prog 37 [.agg [.str s,.slice (q.map fun b=>(b,0)) so.length cp]] H fun v H'=>∃p r b,v=.func (.func 69) [] [.ptr (some (p,0)),.ptr (some (r,0))]∧D7 s (q.map fun b=>(b,0)) so.length cp (fun i=>bt so (i:Int)) n p r b H' ∧
   (H.n≤p∧p<H'.n)∧(H.n≤r∧r<H'.n)∧(H.n≤b∧b<H'.n)∧H.n≤H'.n∧∀c,c<H.n→H'.get c=H.get c:=by
 refine .inl ⟨aB (by kernel_rfl),ew (aT:=[]) au ?_⟩
 show gP _ _ _ _ [.agg [.str s,.slice (q.map fun b=>(b,0)) so.length cp]] _ _
 rw [Eu]
 simp only [bL,bq,aY,bh,aJ,cm]
 obtain ⟨A,hA⟩ : ∃A,A=H.alloc (.cells [.str s,.slice (q.map fun b=>(b,0)) so.length cp] 26 { whole:=true }):=⟨_,rfl⟩
 rw [← hA]
 have ag:A.get H.n=some (.cells [.str s,.slice (q.map fun b=>(b,0)) so.length cp] 26 { whole:=true }):=by rw [hA,AH.aa,if_pos rfl]
 have ao : ∀c,c<H.n→A.get c=H.get c:=fun c hc=>by rw [hA,AH.aa,if_neg (by omega)]
 have an:A.n=H.n+1:=by rw [hA];rfl
 refine ⟨(by trivial),s,q.map fun b=>(b,0),so.length,cp,by unfold AH.read;rw [ag];rfl,?_⟩
 refine (zu s n hn hs hl hf hx (hq.gM (by omega) ao)).mono ?_
 rintro v B ⟨rfl,b1,b2⟩
 have bg:B.get H.n=_:=(b2 _ (by omega)).trans ag
 have n0:((0:Int) != 0)=false:=by decide
 refine ⟨0,rfl,?_⟩
 simp only [n0,cond_false]
 refine ⟨s,q.map fun b=>(b,0),so.length,cp,by unfold AH.read;rw [bg];rfl,?_⟩
 refine (GZ s n hn hs hl hf hx (hq.gM (by omega) fun c hc=>by rw [b2 c (by omega)];exact ao c hc)).mono ?_
 rintro v C ⟨b,rfl,c1,c2,c3,c4⟩
 obtain ⟨E,hE⟩ : ∃E,E=(C.alloc (.cells [.slice none 0 0] 50 { whole:=true })).set C.n (.cells [.slice (some (b,0)) n n] 50 { whole:=true }):=⟨_,rfl⟩
 have eg:E.get C.n=some (.cells [.slice (some (b,0)) n n] 50 { whole:=true }):=by rw [hE,AH.af,if_pos rfl]
 have eo : ∀c,c<C.n→E.get c=C.get c:=fun c hc=>by rw [hE,AH.af,if_neg (by omega),AH.aa,if_neg (by omega)]
 have en:E.n=C.n+1:=by rw [hE];simp
 refine ⟨some (b,0),n,n,rfl,(by trivial),E,by rw [hE];simp [AH.write,AH.aa,ax,AV.one],H.n,C.n,b,rfl,⟨?_,eg,by rw [eo b c3];exact c1⟩,⟨Nat.le_refl _,by omega⟩,⟨by omega,by omega⟩,⟨by omega,by omega⟩,by omega,fun c hc=>?_⟩
 ·rw [eo _ (by omega),c4 _ (by omega)];exact bg
 ·rw [eo c (by omega),c4 c (by omega),b2 c (by omega)];exact ao c hc
def Lp (x:(Int×Int×Int×Bool)×(Bool×Bool×Bool×Bool×Int)):List AV :=
 [.agg [.int .i64 x.1.1,.int .i64 x.1.2.1,.int .i32 x.1.2.2.1,.bool x.1.2.2.2],.agg [.bool x.2.1,.bool x.2.2.1,.bool x.2.2.2.1,.bool x.2.2.2.2.1,.int .i64 x.2.2.2.2.2]]
def Sc (a:aj):Bool×Bool×Bool×Bool×Int:=(a.b,a.i,a.u,a.k,a.c)
def IL (s:List UInt8) (L:Nat→aj) (n:Nat):List ((Int×Int×Int×Bool)×(Bool×Bool×Bool×Bool×Int)):=(List.range n).map fun m=>(eA s m,Sc (L m))
set_option maxRecDepth 100000 in
theorem xb (s:List UInt8) (n:Nat) (hn:aD s n) (hs:s.length≤4096) (q:Option (Nat×Nat)) (k c:Nat) (L:Nat→aj) (p r b:Nat) :
  Iter Tryd.prog 69 [] [.ptr (some (p,0)),.ptr (some (r,0))] (D7 s q k c L n p r b) ((IL s L n).map Lp):=by
 have Ct:n≤s.length:=by have:=dJ hn.2;have:=hn.1;omega
 intro b0 J D H0 hb s1 s2 s3 s4 hC h0 jH
 have hlen:((IL s L n).map Lp).length=n:=by simp [IL]
 rw [hlen]
 obtain ⟨I,hI⟩ : ∃I:Nat→List Nat→AH→Prop,I=fun i cs K=>∃W,J i W K∧(∀c ∈ cs,c ∈ W)∧(∀c ∈ W,c<K.n)∧H0.n ∈ W∧H0.n+1 ∈ W∧H0.n+2 ∈ W∧H0.n+3 ∈ W∧H0.n+4 ∈ W∧(∀c ∈ cs,H0.n+3≤c) ∧
  K.get H0.n=some (.cells [.cV b0] 120 { whole:=true })∧K.get (H0.n+1)=some (.cells [.int .i64 (i:Int)] 3 { whole:=true })∧K.get (H0.n+2)=some (.cells [.str s] 9 { whole:=true }):=⟨_,rfl⟩
 obtain ⟨S,hS⟩ : ∃S:dm→List Nat→AH→Prop,S=fun _ cs K=>∃W,D W K∧(∀c ∈ cs,c ∈ W)∧H0.n+3 ∈ W∧H0.n+4 ∈ W:=⟨_,rfl⟩
 show bH _ _ [.cV b0,.ptr (some (p,0)),.ptr (some (r,0))] H0 _
 refine ck (aT:=_) (dY:=_) au (Eq.mpr (BD (real Tryd.prog) (Iter Tryd.prog) b0 p r H0 (fun _ H'=>∃W,J n W H'∨D W H') ((List.range n).map (eA s)) (fun _ K=>K.get (H0.n+2)=some (.cells [.str s] 9 { whole:=true })) I S) ?_)
 simp only [bL,bq,aY,bh,aJ,cm,aL,Hf,Dc,AH.aC]
 obtain ⟨H1,tW⟩ : ∃H1,H1=((H0.alloc (.cells [.cV b0] 120 { whole:=true })).alloc (.cells [.int .i64 0] 3 { whole:=true })).set (H0.n+1) (.cells [.int .i64 0] 3 { whole:=true }):=⟨_,rfl⟩
 have j1:J 0 [H0.n+1,H0.n] H1:=by
  rw [tW]
  exact s2 _ _ _ _ _ (by simp) (s1 _ _ _ _ (s1 _ _ _ _ h0))
 have n1:H1.n=H0.n+2:=by rw [tW];simp
 have g0:H1.get H0.n=some (.cells [.cV b0] 120 { whole:=true }):=by rw [tW,AH.af,if_neg (by omega),AH.aa,if_neg (by simp only [AH.aC];omega),AH.aa,if_pos rfl]
 have g1:H1.get (H0.n+1)=some (.cells [.int .i64 0] 3 { whole:=true }):=by rw [tW,AH.af,if_pos rfl]
 refine ⟨(by trivial),(by trivial),H1,by rw [tW];simp [AH.write,AH.aa,ax,AV.one],s,by unfold AH.ak;rw [(hC _ _ _ j1).1];rfl,?_⟩
 refine CZ s _ ?_
 obtain ⟨H2,Oa⟩ : ∃H2,H2=H1.alloc (.cells [.str s] 9 { whole:=true }):=⟨_,rfl⟩
 rw [← Oa]
 have n2:H2.n=H0.n+3:=by rw [Oa];simp [n1]
 have j2:J 0 [H0.n+2,H0.n+1,H0.n] H2:=by
  have:=s1 _ _ _ (.cells [.str s] 9 { whole:=true }) j1
  rw [n1,← Oa] at this;exact this
 have o2 : ∀c,c<H0.n+2→H2.get c=H1.get c:=fun c hc=>by rw [Oa,AH.aa,if_neg (by omega)]
 have g2:H2.get (H0.n+2)=some (.cells [.str s] 9 { whole:=true }):=by rw [Oa,AH.aa,if_pos n1.symm]
 refine ⟨_,rfl,.ptr (some (H0.n+2,0)),by rw [n1],?_,?_,fun _=>rfl,?_,?_,?_,?_⟩
 ·exact zj s n hn (H0.n+2)
 ·refine ⟨fun i cs K o h=>?_,fun i cs K c o hc h=>?_,fun e cs K o h=>?_,fun e cs K c o hc h=>?_,fun i cs K h=>?_⟩
  ·simp only [hI] at h ⊢
   obtain ⟨W,a1,a2,a3,a4,a5,a6,a7,a8,a9,Ja,I9,MT⟩:=h
   refine ⟨K.n :: W,s1 _ _ _ _ a1,?_,?_,List.mem_cons_of_mem _ a4,List.mem_cons_of_mem _ a5,List.mem_cons_of_mem _ a6,List.mem_cons_of_mem _ a7,List.mem_cons_of_mem _ a8,?_,?_,?_,?_⟩
   ·intro c hc
    rcases List.mem_cons.1 hc with rfl | hc
    ·exact List.mem_cons_self
    ·exact List.mem_cons_of_mem _ (a2 c hc)
   ·intro c hc
    simp only [AH.aC]
    rcases List.mem_cons.1 hc with rfl | hc
    ·omega
    ·have:=a3 c hc;omega
   ·intro c hc
    rcases List.mem_cons.1 hc with rfl | hc
    ·have:=a3 _ a7;omega
    ·exact a9 c hc
   ·have:=a3 _ a4;rw [AH.aa,if_neg (by omega)];exact Ja
   ·have:=a3 _ a5;rw [AH.aa,if_neg (by omega)];exact I9
   ·have:=a3 _ a6;rw [AH.aa,if_neg (by omega)];exact MT
  ·simp only [hI] at h ⊢
   obtain ⟨W,a1,a2,a3,a4,a5,a6,a7,a8,a9,Ja,I9,MT⟩:=h
   have:=a9 c hc
   exact ⟨W,s2 _ _ _ _ _ (a2 c hc) a1,a2,by simpa using a3,a4,a5,a6,a7,a8,a9,by rw [AH.af,if_neg (by omega)];exact Ja,by rw [AH.af,if_neg (by omega)];exact I9,by rw [AH.af,if_neg (by omega)];exact MT⟩
  ·simp only [hS] at h ⊢
   obtain ⟨W,a1,a2,a3,a4⟩:=h
   refine ⟨K.n :: W,s3 _ _ _ a1,?_,List.mem_cons_of_mem _ a3,List.mem_cons_of_mem _ a4⟩
   intro c hc
   rcases List.mem_cons.1 hc with rfl | hc
   ·exact List.mem_cons_self
   ·exact List.mem_cons_of_mem _ (a2 c hc)
  ·simp only [hS] at h ⊢
   obtain ⟨W,a1,a2,a3,a4⟩:=h
   exact ⟨W,s4 _ _ _ _ (a2 c hc) a1,a2,a3,a4⟩
  ·simp only [hI] at h
   obtain ⟨W,a1,a2,a3,a4,a5,a6,a7,a8,a9,Ja,I9,MT⟩:=h
   exact MT
 ·rintro K ⟨k1,k2,o1,o3,rfl⟩
  simp only [hI]
  refine ⟨[H0.n+4,H0.n+3,H0.n+2,H0.n+1,H0.n],?_,?_,?_,by simp,by simp,by simp,by simp,by simp,?_,?_,?_,?_⟩
  ·have:=s1 _ _ _ o3 (s1 _ _ _ o1 j2)
   simp only [AH.aC,n2] at this
   exact this
  ·rw [n2];intro c hc
   simp only [List.mem_cons,List.mem_nil_iff,or_false] at hc ⊢
   omega
  ·simp only [AH.aC,n2]
   intro c hc
   simp only [List.mem_cons,List.mem_nil_iff,or_false] at hc
   omega
  ·rw [n2];intro c hc
   simp only [List.mem_cons,List.mem_nil_iff,or_false] at hc
   omega
  ·rw [k2 _ (by omega),o2 _ (by omega)];exact g0
  ·rw [k2 _ (by omega),o2 _ (by omega)];exact g1
  ·rw [k2 _ (by omega)];exact g2
 ·rintro i cs K x hx hK cv iX
  simp only [hI] at hK
  obtain ⟨W,a1,a2,a3,a4,a5,a6,a7,a8,a9,Ja,I9,MT⟩:=hK
  rw [n2] at iX ⊢
  have N0:i<n:=by
   have:=(List.getElem?_eq_some_iff.1 hx).1
   simpa using this
  have Qe:x=eA s i:=by
   rw [List.getElem?_map,List.getElem?_range N0] at hx
   exact (Option.some.inj hx).symm
  obtain ⟨K1,CE⟩ : ∃K1,K1=(K.alloc (.cells [.int .i64 0,.int .i64 0,.int .i32 0,.bool false] 77 { whole:=true })).set K.n (.cells [.int .i64 x.1,.int .i64 x.2.1,.int .i32 x.2.2.1,.bool x.2.2.2] 77 { whole:=true }):=⟨_,rfl⟩
  have Wl:K1.n=K.n+1:=by rw [CE];simp
  have Dz : ∀c,c<K.n→K1.get c=K.get c:=fun c hc=>by rw [CE,AH.af,if_neg (by omega),AH.aa,if_neg (by omega)]
  have Yj:K1.get K.n=some (.cells [.int .i64 x.1,.int .i64 x.2.1,.int .i32 x.2.2.1,.bool x.2.2.2] 77 { whole:=true }):=by rw [CE,AH.af,if_pos rfl]
  have Ym:J i (K.n :: W) K1:=by rw [CE];exact s2 _ _ _ _ _ List.mem_cons_self (s1 _ _ _ _ a1)
  refine ⟨rfl,K1,by rw [CE];simp [AH.write,AH.aa,ax,AV.one],⟨by omega,fun c hc=>Dz c (cv c hc)⟩,?_⟩
  rintro K2 ⟨b1,b2,o,rfl⟩
  have m4:=a3 _ a8
  have TI:J i (K.n :: W) (K1.set (H0.n+4) o):=s2 _ _ _ _ _ (List.mem_cons_of_mem _ a8) Ym
  obtain ⟨K2,DI⟩ : ∃K2,K2=K1.set (H0.n+4) o:=⟨_,rfl⟩
  rw [← DI] at b1 b2 TI ⊢
  have CB:=hC _ _ _ TI
  have e0:K2.get H0.n=some (.cells [.cV b0] 120 { whole:=true }):=by rw [b2 _ (by omega),Dz _ (by omega)];exact Ja
  have e1:K2.get (H0.n+1)=some (.cells [.int .i64 (i:Int)] 3 { whole:=true }):=by rw [b2 _ (by omega),Dz _ (by omega)];exact I9
  have e2:K2.get (H0.n+2)=some (.cells [.str s] 9 { whole:=true }):=by rw [b2 _ (by omega),Dz _ (by omega)];exact MT
  have e3:K2.get K.n=some (.cells [.int .i64 x.1,.int .i64 x.2.1,.int .i32 x.2.2.1,.bool x.2.2.2] 77 { whole:=true }):=by rw [b2 _ (by omega)];exact Yj
  have kR:K2.read b (0+i*5) 5=some (L i).cells:=by
   have:=dr aj.aG CB.2.2 (i:=i) (by rw [lK];exact N0)
   rw [tA] at this
   exact this
  have uP:(L i).cells=[.bool (L i).b,.bool (L i).i,.bool (L i).u,.bool (L i).k,.int .i64 (L i).c]:=rfl
  refine ⟨b0,by unfold AH.ak;rw [e0];rfl,x.1,x.2.1,x.2.2.1,x.2.2.2,by unfold AH.read;rw [e3];rfl,some (b,0),n,n,by unfold AH.ak;rw [CB.2.1];rfl,(i:Int),by unfold AH.ak;rw [e1];rfl,b,0,⟨rfl,by omega,by omega⟩,(L i).b,(L i).i,(L i).u,(L i).k,(L i).c,by rw [Int.toNat_natCast];exact kR,?_⟩
  have iB:((IL s L n).map Lp)[i]? = some (Lp (eA s i,Sc (L i))):=by
   rw [List.getElem?_map];unfold IL;rw [List.getElem?_map,List.getElem?_range N0];rfl
  have eF:=jH (some (H0.n+3+1)) i (K.n :: W) K2 _ iB TI (fun c hc=>by
   rcases List.mem_cons.1 hc with rfl | hc
   ·omega
   ·have:=a3 c hc;omega)
  rw [Qe]
  refine uI.mono eF ?_
  rintro v K3 ⟨c1,c2,⟨rfl,c3⟩ | ⟨rfl,c3⟩⟩
  ·refine ⟨true,rfl,?_⟩
   simp only [Bool.not_true,cond_false]
   have f0:K3.get H0.n=_:=(c2 _ (List.mem_cons_of_mem _ a4)).trans e0
   have f1:K3.get (H0.n+1)=_:=(c2 _ (List.mem_cons_of_mem _ a5)).trans e1
   have f2:K3.get (H0.n+2)=_:=(c2 _ (List.mem_cons_of_mem _ a6)).trans e2
   obtain ⟨K4,Gs⟩ : ∃K4,K4=K3.set (H0.n+1) (.cells [.int .i64 ((i+1:Nat):Int)] 3 { whole:=true }):=⟨_,rfl⟩
   have k4n:K4.n=K3.n:=by rw [Gs];simp
   have Yl:J (i+1) (K.n :: W) K4:=by rw [Gs];exact s2 _ _ _ _ _ (List.mem_cons_of_mem _ a5) c3
   have TG : ∀c,c ≠ H0.n+1→K4.get c=K3.get c:=fun c hc=>by rw [Gs,AH.af,if_neg hc]
   have w:IntKind.i64.wrap ((i:Int)+1)=((i+1:Nat):Int):=by rw [wrap_i64 (by omega) (by omega)];rfl
   refine ⟨(i:Int),by unfold AH.ak;rw [f1];rfl,rfl,K4,by rw [Gs,w];simp [AH.write,f1,ax,AV.one],⟨by omega,fun c hc=>?_⟩,?_⟩
   ·have:=a9 c hc
    rw [TG c (by omega)]
    exact c2 c (List.mem_cons_of_mem _ (a2 c hc))
   ·rintro K5 ⟨d1,d2,o',rfl⟩
    simp only [hI]
    refine ⟨K.n :: W,s2 _ _ _ _ _ (List.mem_cons_of_mem _ a8) Yl,fun c hc=>List.mem_cons_of_mem _ (a2 c hc),fun c hc=>?_,List.mem_cons_of_mem _ a4,List.mem_cons_of_mem _ a5,List.mem_cons_of_mem _ a6,List.mem_cons_of_mem _ a7,List.mem_cons_of_mem _ a8,a9,?_,?_,?_⟩
    ·simp only [AH.aZ]
     rcases List.mem_cons.1 hc with rfl | hc
     ·omega
     ·have:=a3 c hc;omega
    ·rw [d2 _ (by omega),TG _ (by omega)];exact f0
    ·rw [d2 _ (by omega),Gs,AH.af,if_pos rfl]
    ·rw [d2 _ (by omega),TG _ (by omega)];exact f2
  ·refine ⟨false,rfl,?_⟩
   simp only [Bool.not_false,cond_true]
   refine ⟨⟨by omega,fun c hc=>c2 c (List.mem_cons_of_mem _ (a2 c hc))⟩,?_⟩
   rintro K5 ⟨d1,d2,o',rfl⟩
   simp only [hS]
   exact ⟨K.n :: W,s4 _ _ _ _ (List.mem_cons_of_mem _ a8) c3,fun c hc=>List.mem_cons_of_mem _ (a2 c hc),List.mem_cons_of_mem _ a7,List.mem_cons_of_mem _ a8⟩
 ·rintro cs K K' hK ⟨b1,b2,o,rfl⟩ hd
  simp only [hI] at hK
  obtain ⟨W,a1,a2,a3,a4,a5,a6,a7,a8,a9,Ja,I9,MT⟩:=hK
  have Ax:(K.set (H2.n+1) o).get H2.n=some .deferred:=hd
  refine ⟨(K.set (H2.n+1) o).set H2.n .dead,by simp only [bM,Ax],W,.inl ?_⟩
  have e:((List.range n).map (eA s)).length=n:=by simp
  rw [e] at a1
  rw [n2]
  exact s2 _ _ _ _ _ a7 (s2 _ _ _ _ _ a8 a1)
 ·rintro cs K K' hK ⟨b1,b2,o,rfl⟩ hd
  simp only [hS] at hK
  obtain ⟨W,a1,a2,a3,a4⟩:=hK
  have Ax:(K.set (H2.n+1) o).get H2.n=some .deferred:=hd
  refine ⟨(K.set (H2.n+1) o).set H2.n .dead,by simp only [bM,Ax],W,.inr ?_⟩
  rw [n2]
  exact s4 _ _ _ _ a3 (s4 _ _ _ _ a4 a1)
end Go.Proofs.YtlkdhhkncoekgaaDoor
