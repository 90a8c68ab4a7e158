/- Rows of spans of any length are put in order. -/
import Derived.Test.YtlkdhhkncoekgaaDoorSortC
namespace Go.Proofs.YtlkdhhkncoekgaaDoor
open Go.Am Go
section
variable {L:vm}
set_option maxHeartbeats 1000000 in
set_option maxRecDepth 100000 in
theorem sE : ∀(D0:Nat) {H:AH} {bk n a m b:Nat} {f:Nat→Nat},D0=b - a→fq L H bk f n→n≤1000000→a<m→m<b→b≤n→jv L.toOrdr f a m→jv L.toOrdr f m b→LQ f a m b →
  az Tryd.prog 117 [D bk n,.int .i64 a,.int .i64 m,.int .i64 b,Fc L] H (fun v H'=>∃g,Left L H bk n g v H'∧jv L.toOrdr g a b∧bT n a b g f):=by
 intro D0
 induction D0 using Nat.strongRecOn with
 | ind D0 ih =>
 intro H bk n a m b f hD h hn h1 h2 hb s1 s2 hA
 refine .inl ⟨aB (by kernel_rfl),ck (aT:=_) (dY:=_) au (Eq.mpr (y6 (real Tryd.prog) (Iter Tryd.prog) bk n a m b L.g L.hg H _) ?_)⟩
 simp only [bh,cm,aL,aJ]
 obtain ⟨Z,hZ⟩ : ∃Z:(Nat→Nat)→AH→Prop,Z=fun g H'=>fq L H' bk g n∧H.n≤H'.n∧∀c,c<H.n→c ≠ bk→H'.get c=H.get c:=⟨_,rfl⟩
 have z0:Z f H:=by rw [hZ];exact ⟨h,Nat.le_refl _,fun c _ _=>rfl⟩
 have fin : ∀ {g:Nat→Nat} {H' : AH},Z g H'→jv L.toOrdr g a b→bT n a b g f→∃g,Left L H bk n g (.tuple []) H'∧jv L.toOrdr g a b∧bT n a b g f:=fun {g H'} hz hs hr=>by
  rw [hZ] at hz;exact ⟨g,⟨rfl,hz.1,hz.2.1,hz.2.2⟩,hs,hr⟩
 have w1 : ∀i:Nat,i≤4000000→IntKind.i64.wrap ((i:Int)+1)=((i+1:Nat):Int):=fun i hi=>by rw [wrap_i64 (by omega) (by omega)];omega
 have Tb : ∀i:Nat,0<i→i≤4000000→IntKind.i64.wrap ((i:Int) - 1)=((i - 1:Nat):Int):=fun i h0 hi=>by rw [wrap_i64 (by omega) (by omega)];omega
 have X2:IntKind.i64.wrap ((m:Int) - (a:Int))=((m - a:Nat):Int):=by rw [wrap_i64 (by omega) (by omega)];omega
 have X3:IntKind.i64.wrap ((b:Int) - (m:Int))=((b - m:Nat):Int):=by rw [wrap_i64 (by omega) (by omega)];omega
 rw [X2]
 by_cases c1:m=a+1
 ·have d1:(((m - a:Nat):Int) == 1)=true:=by rw [beq_iff_eq];omega
  simp only [d1,cond_true]
  subst c1
  refine ⟨fun x H' k=>∃i j:Nat,x=((i:Int),(j:Int))∧a+1≤i∧i≤j∧j≤b∧H=H'∧(i=a+1∨L.lt (f (i - 1)) (f a)=true)∧(j=b∨L.lt (f j) (f a)=false)∧k=j - i,
   ⟨(((a+1:Nat):Int),(b:Int)),b - (a+1),rfl,a+1,b,rfl,Nat.le_refl _,by omega,Nat.le_refl _,rfl,.inl rfl,.inl rfl,rfl⟩,?_⟩
  rintro _ _ _ ⟨i,j,rfl,hi,Ir,Uz,rfl,q1,q2,rfl⟩
  by_cases cv:i<j
  ·have d2:decide ((i:Int)<(j:Int))=true:=by rw [decide_eq_true_iff];omega
   have Au:=xS i j (by omega)
   obtain ⟨c,hc⟩ : ∃c,c=(i+j) / 2:=⟨_,rfl⟩
   rw [← hc] at Au
   have tT:i≤c∧c<j:=by omega
   simp only [d2,cond_true,Au,w1 c (by omega)]
   refine ⟨by decide,bk,0,⟨rfl,by omega,by omega⟩,_,_,_,_,h.read (by omega),bk,0,⟨rfl,by omega,by omega⟩,_,_,_,_,h.read (by omega),?_⟩
   refine (L.pure (L.sp (f c)) (L.sp (f a))).dS ⟨_,rfl,?_⟩
   rw [L.dec,← Ordr.mC (hA a c (Nat.le_refl a) (by omega) (by omega) (by omega))]
   cases hl:L.lt (f c) (f a) with
   | true =>
    simp only [cond_true]
    exact ⟨(((c+1:Nat):Int),(j:Int)),j - (c+1),by omega,rfl,c+1,j,rfl,by omega,by omega,Uz,(by trivial),.inr hl,q2,rfl⟩
   | false =>
    simp only [cond_false]
    exact ⟨((i:Int),(c:Int)),c - i,by omega,rfl,i,c,rfl,hi,by omega,by omega,(by trivial),q1,.inr hl,rfl⟩
  ·have d2:decide ((i:Int)<(j:Int))=false:=by rw [decide_eq_false_iff_not];omega
   simp only [d2,cond_false]
   obtain rfl:i=j:=by omega
   refine ⟨fun x H' k=>∃kk:Nat,x=((i:Int),(kk:Int))∧a≤kk∧kk+1≤i∧Z (cD f a (a+1) (kk+1)) H'∧bE n (cD f a (a+1) (kk+1)) f∧k=i - 1 - kk,
    ⟨((i:Int),(a:Int)),i - 1 - a,rfl,a,rfl,Nat.le_refl _,by omega,?_,?_,rfl⟩,?_⟩
   ·rw [lz (.inr rfl) (by omega) (Nat.le_refl _)];exact z0
   ·rw [lz (.inr rfl) (by omega) (Nat.le_refl _)];exact bE.refl n f
   rintro _ H3 _ ⟨kk,rfl,Uy,Fq,hz,hp,rfl⟩
   have VD:=Tb i (by omega) (by omega)
   by_cases hk:kk<i - 1
   ·have d3:decide ((kk:Int)<((i - 1:Nat):Int))=true:=by rw [decide_eq_true_iff];omega
    simp only [VD,d3,cond_true,w1 kk (by omega)]
    have iM:=hz
    rw [hZ] at iM
    obtain ⟨y1,y2,y3⟩:=iM
    obtain ⟨H4,u1,u2,u3,u4⟩:=y1.write (i:=kk) (by omega) (cD f a (a+1) (kk+1) (kk+1))
    obtain ⟨H5,v1,v2,v3,v4⟩:=u2.write (i:=kk+1) (by omega) (cD f a (a+1) (kk+1) kk)
    rw [rU,C6 Uy] at v2
    refine ⟨bk,0,⟨rfl,by omega,by omega⟩,_,_,_,_,y1.read (by omega),bk,0,⟨rfl,by omega,by omega⟩,_,_,_,_,y1.read (by omega),bk,0,⟨rfl,by omega,by omega⟩,rfl,H4,u1,bk,0,⟨rfl,by omega,by omega⟩,rfl,H5,v1,((i:Int),((kk+1:Nat):Int)),i - 1 - (kk+1),by omega,rfl,kk+1,rfl,by omega,by omega,?_,?_,rfl⟩
    ·rw [hZ];exact ⟨v2,by omega,fun c hc tT=>by rw [v4 c tT,u4 c tT];exact y3 c hc tT⟩
    ·rw [← C6 Uy];exact (bE.mm (by omega) (by omega)).trans hp
   ·have d3:decide ((kk:Int)<((i - 1:Nat):Int))=false:=by rw [decide_eq_false_iff_not];omega
    simp only [VD,d3,cond_false]
    have e:kk+1=i:=by omega
    rw [e] at hz hp
    exact fin hz (JL s2 hi Uz q1 q2) (bT.Tn hp (Nat.le_refl _) (by omega) hi Uz)
 ·have d1:(((m - a:Nat):Int) == 1)=false:=by rw [beq_eq_false_iff_ne];omega
  simp only [d1,cond_false]
  rw [X3]
  by_cases c2:b=m+1
  ·have d2:(((b - m:Nat):Int) == 1)=true:=by rw [beq_iff_eq];omega
   simp only [d2,cond_true]
   subst c2
   refine ⟨fun x H' k=>∃i j:Nat,x=((i:Int),(j:Int))∧a≤i∧i≤j∧j≤m∧H=H'∧(i=a∨L.lt (f m) (f (i - 1))=false)∧(j=m∨L.lt (f m) (f j)=true)∧k=j - i,
    ⟨((a:Int),(m:Int)),m - a,rfl,a,m,rfl,Nat.le_refl _,by omega,Nat.le_refl _,rfl,.inl rfl,.inl rfl,rfl⟩,?_⟩
   rintro _ _ _ ⟨i,j,rfl,hi,Ir,QL,rfl,q1,q2,rfl⟩
   by_cases cv:i<j
   ·have d3:decide ((i:Int)<(j:Int))=true:=by rw [decide_eq_true_iff];omega
    have Au:=xS i j (by omega)
    obtain ⟨c,hc⟩ : ∃c,c=(i+j) / 2:=⟨_,rfl⟩
    rw [← hc] at Au
    have tT:i≤c∧c<j:=by omega
    simp only [d3,cond_true,Au,w1 c (by omega)]
    refine ⟨by decide,bk,0,⟨rfl,by omega,by omega⟩,_,_,_,_,h.read (by omega),bk,0,⟨rfl,by omega,by omega⟩,_,_,_,_,h.read (by omega),?_⟩
    refine (L.pure (L.sp (f m)) (L.sp (f c))).dS ⟨_,rfl,?_⟩
    rw [L.dec,← Ordr.mC (hA c m (by omega) (by omega) (Nat.le_refl m) (by omega))]
    cases hl:L.lt (f m) (f c) with
    | false =>
     simp only [Bool.not_false,cond_true]
     exact ⟨(((c+1:Nat):Int),(j:Int)),j - (c+1),by omega,rfl,c+1,j,rfl,by omega,by omega,QL,(by trivial),.inr hl,q2,rfl⟩
    | true =>
     simp only [Bool.not_true,cond_false]
     exact ⟨((i:Int),(c:Int)),c - i,by omega,rfl,i,c,rfl,hi,by omega,by omega,(by trivial),q1,.inr hl,rfl⟩
   ·have d3:decide ((i:Int)<(j:Int))=false:=by rw [decide_eq_false_iff_not];omega
    simp only [d3,cond_false]
    obtain rfl:i=j:=by omega
    refine ⟨fun x H' k=>∃kk:Nat,x=((i:Int),(kk:Int))∧i≤kk∧kk≤m∧Z (cD f kk m (m+1)) H'∧bE n (cD f kk m (m+1)) f∧k=kk - i,
     ⟨((i:Int),(m:Int)),m - i,rfl,m,rfl,QL,Nat.le_refl _,?_,?_,rfl⟩,?_⟩
    ·rw [lz (.inl rfl) (Nat.le_refl _) (by omega)];exact z0
    ·rw [lz (.inl rfl) (Nat.le_refl _) (by omega)];exact bE.refl n f
    rintro _ H3 _ ⟨kk,rfl,Uy,Fq,hz,hp,rfl⟩
    by_cases hk:i<kk
    ·have d4:decide ((kk:Int) > (i:Int))=true:=by rw [decide_eq_true_iff];omega
     simp only [d4,cond_true,Tb kk (by omega) (by omega)]
     have iM:=hz
     rw [hZ] at iM
     obtain ⟨y1,y2,y3⟩:=iM
     obtain ⟨H4,u1,u2,u3,u4⟩:=y1.write (i:=kk) (by omega) (cD f kk m (m+1) (kk - 1))
     obtain ⟨H5,v1,v2,v3,v4⟩:=u2.write (i:=kk - 1) (by omega) (cD f kk m (m+1) kk)
     rw [rU,wB Fq (by omega)] at v2
     refine ⟨bk,0,⟨rfl,by omega,by omega⟩,_,_,_,_,y1.read (by omega),bk,0,⟨rfl,by omega,by omega⟩,_,_,_,_,y1.read (by omega),bk,0,⟨rfl,by omega,by omega⟩,rfl,H4,u1,bk,0,⟨rfl,by omega,by omega⟩,rfl,H5,v1,((i:Int),((kk - 1:Nat):Int)),kk - 1 - i,by omega,rfl,kk - 1,rfl,by omega,by omega,?_,?_,rfl⟩
     ·rw [hZ];exact ⟨v2,by omega,fun c hc tT=>by rw [v4 c tT,u4 c tT];exact y3 c hc tT⟩
     ·rw [← wB Fq (by omega)];exact (bE.mm (by omega) (by omega)).trans hp
    ·have d4:decide ((kk:Int) > (i:Int))=false:=by rw [decide_eq_false_iff_not];omega
     simp only [d4,cond_false]
     obtain rfl:kk=i:=by omega
     exact fin hz (FF s1 hi QL q1 q2) (bT.Tn hp hi QL (by omega) (Nat.le_refl _))
  ·have d2:(((b - m:Nat):Int) == 1)=false:=by rw [beq_eq_false_iff_ne];omega
   simp only [d2,cond_false]
   have Au:=xS a b (by omega)
   obtain ⟨mid,hm⟩ : ∃mid,mid=(a+b) / 2:=⟨_,rfl⟩
   rw [← hm] at Au
   have e2:(2:Int) ^ min (Int.toNat 1) IntKind.u64.bits=2:=rfl
   have X0:IntKind.i64.wrap ((mid:Int)+(m:Int))=((mid+m:Nat):Int):=by rw [wrap_i64 (by omega) (by omega)];omega
   have X1:IntKind.i64.wrap (((mid+m:Nat):Int) - (b:Int))=((mid+m:Nat):Int) - (b:Int):=wrap_i64 (by omega) (by omega)
   simp only [e2,Au,X0,X1]
   refine ⟨by decide,fun x H'=>H=H'∧∃lo r:Nat,x=((mid:Int),((mid+m:Nat):Int),(lo:Int),(r:Int))∧((mid<m∧lo=mid+m - b∧r=mid)∨(m≤mid∧lo=a∧r=m)),?_,?_⟩
   ·by_cases UF:mid<m
    ·have d3:decide ((m:Int) > (mid:Int))=true:=by rw [decide_eq_true_iff];omega
     simp only [d3,cond_true]
     refine ⟨((mid:Int),((mid+m:Nat):Int),((mid+m - b:Nat):Int),(mid:Int)),0,trivial,?_,trivial,mid+m - b,mid,rfl,.inl ⟨UF,rfl,rfl⟩⟩
     rw [show ((mid+m:Nat):Int) - (b:Int)=((mid+m - b:Nat):Int) by omega]
    ·have d3:decide ((m:Int) > (mid:Int))=false:=by rw [decide_eq_false_iff_not];omega
     simp only [d3,cond_false]
     exact ⟨((mid:Int),((mid+m:Nat):Int),(a:Int),(m:Int)),0,trivial,rfl,trivial,a,m,rfl,.inr ⟨by omega,rfl,rfl⟩⟩
   rintro _ _ ⟨rfl,lo,r0,rfl,hlr⟩
   refine ⟨fun x H' k=>H=H'∧∃s r:Nat,x=((mid:Int),((mid+m:Nat):Int),(s:Int),(r:Int),((mid+m - 1:Nat):Int))∧lo≤s∧s≤r∧r≤r0∧(s=lo∨L.lt (f (mid+m - s)) (f (s - 1))=false)∧(r=r0∨L.lt (f (mid+m - 1 - r)) (f r)=true)∧k=r - s,
    ⟨((mid:Int),((mid+m:Nat):Int),(lo:Int),(r0:Int),((mid+m - 1:Nat):Int)),r0 - lo,?_,rfl,lo,r0,rfl,Nat.le_refl _,by omega,Nat.le_refl _,.inl rfl,.inl rfl,rfl⟩,?_⟩
   ·rw [Tb (mid+m) (by omega) (by omega)]
   rintro _ _ _ ⟨rfl,s,r,rfl,NN,NM,YN,q1,q2,rfl⟩
   by_cases cv:s<r
   ·have d3:decide ((s:Int)<(r:Int))=true:=by rw [decide_eq_true_iff];omega
    have WK:=xS s r (by omega)
    obtain ⟨c,hc⟩ : ∃c,c=(s+r) / 2:=⟨_,rfl⟩
    rw [← hc] at WK
    have tT:s≤c∧c<r:=by omega
    have XZ:IntKind.i64.wrap (((mid+m - 1:Nat):Int) - (c:Int))=((mid+m - 1 - c:Nat):Int):=by rw [wrap_i64 (by omega) (by omega)];omega
    simp only [d3,cond_true,WK,XZ,w1 c (by omega)]
    refine ⟨by decide,bk,0,⟨rfl,by omega,by omega⟩,_,_,_,_,h.read (by omega),bk,0,⟨rfl,by omega,by omega⟩,_,_,_,_,h.read (by omega),?_⟩
    refine (L.pure (L.sp (f (mid+m - 1 - c))) (L.sp (f c))).dS ⟨_,rfl,?_⟩
    rw [L.dec,← Ordr.mC (hA c (mid+m - 1 - c) (by omega) (by omega) (by omega) (by omega))]
    cases hl:L.lt (f (mid+m - 1 - c)) (f c) with
    | false =>
     simp only [Bool.not_false,cond_true]
     refine ⟨((mid:Int),((mid+m:Nat):Int),((c+1:Nat):Int),(r:Int),((mid+m - 1:Nat):Int)),r - (c+1),by omega,rfl,trivial,c+1,r,rfl,by omega,by omega,YN,.inr ?_,q2,rfl⟩
     rw [show mid+m - (c+1)=mid+m - 1 - c by omega];exact hl
    | true =>
     simp only [Bool.not_true,cond_false]
     exact ⟨((mid:Int),((mid+m:Nat):Int),(s:Int),(c:Int),((mid+m - 1:Nat):Int)),c - s,by omega,rfl,trivial,s,c,rfl,NN,by omega,by omega,q1,.inr hl,rfl⟩
   have d3:decide ((s:Int)<(r:Int))=false:=by rw [decide_eq_false_iff_not];omega
   simp only [d3,cond_false]
   obtain rfl:s=r:=by omega
   obtain ⟨e,he⟩ : ∃e,e=mid+m - s:=⟨_,rfl⟩
   have we:IntKind.i64.wrap (((mid+m:Nat):Int) - (s:Int))=(e:Int):=by rw [wrap_i64 (by omega) (by omega)];omega
   have Ml:a≤s∧s≤m:=by omega
   have QY:m≤e∧e≤b:=by omega
   have Y1:mid=s+(e - m):=by omega
   obtain ⟨t1,t2,t3,t4,t5⟩:=Na (s:=s) (e:=e) s1 s2 Ml QY (by
    rcases q1 with q1 | q1
    ·omega
    ·right;right;rw [he];exact q1) (by
    rcases q2 with q2 | q2
    ·omega
    ·right;right;rw [show e - 1=mid+m - 1 - s by omega];exact q2)
   obtain ⟨t6,t7⟩:=LM hA Ml QY
   rw [← Y1] at t2 t3 t5 t6 t7
   obtain ⟨G,hG⟩ : ∃G,G=cD f s m e:=⟨_,rfl⟩
   rw [← hG] at t1 t2 t3 t4 t5 t6 t7
   simp only [we]
   refine ⟨fun x H'=>x=((mid:Int),(s:Int),(e:Int))∧Z G H'∧bT n a b G f,?_,?_⟩
   ·by_cases hc:s<m∧m<e
    ·have d4:(decide ((s:Int)<(m:Int)) && decide ((m:Int)<(e:Int)))=true:=by rw [Bool.and_eq_true,decide_eq_true_iff,decide_eq_true_iff];omega
     simp only [d4,cond_true]
     refine (G8 h hn hc.1 hc.2 (by omega)).mono ?_
     rintro v H3 ⟨⟨rfl,g1,g2,g3⟩,hp⟩
     refine ⟨((mid:Int),(s:Int),(e:Int)),0,trivial,rfl,rfl,?_,?_⟩
     ·rw [hZ,hG];exact ⟨g1,g2,g3⟩
     ·rw [hG];exact bT.Tn hp Ml.1 Ml.2 QY.1 QY.2
    ·have d4:(decide ((s:Int)<(m:Int)) && decide ((m:Int)<(e:Int)))=false:=by
      rw [Bool.and_eq_false_iff,decide_eq_false_iff_not,decide_eq_false_iff_not];omega
     simp only [d4,cond_false]
     have eG:G=f:=by rw [hG];exact lz (by omega) Ml.2 QY.1
     refine ⟨((mid:Int),(s:Int),(e:Int)),0,trivial,rfl,rfl,?_,?_⟩
     ·rw [eG];exact z0
     ·rw [eG];exact bT.refl n a b f
   rintro _ H4 ⟨rfl,Mg,YR⟩
   refine ⟨fun x H'=>x=((mid:Int),(s:Int),(e:Int))∧∃g1,Z g1 H'∧bT n a mid g1 G∧jv L.toOrdr g1 a mid,?_,?_⟩
   ·by_cases hc:a<s∧s<mid
    ·have d4:(decide ((a:Int)<(s:Int)) && decide ((s:Int)<(mid:Int)))=true:=by rw [Bool.and_eq_true,decide_eq_true_iff,decide_eq_true_iff];omega
     simp only [d4,cond_true]
     have P9:=Mg
     rw [hZ] at P9
     obtain ⟨y1,y2,y3⟩:=P9
     refine (ih (mid - a) (by omega) (a:=a) (b:=mid) rfl y1 hn hc.1 hc.2 (by omega) t1 t2 t6).mono ?_
     rintro v H5 ⟨g,⟨rfl,k1,k2,k3⟩,OS,Ub⟩
     refine ⟨((mid:Int),(s:Int),(e:Int)),0,trivial,rfl,rfl,g,?_,Ub,OS⟩
     rw [hZ];exact ⟨k1,by omega,fun c hc tT=>by rw [k3 c (by omega) tT];exact y3 c hc tT⟩
    ·have d4:(decide ((a:Int)<(s:Int)) && decide ((s:Int)<(mid:Int)))=false:=by
      rw [Bool.and_eq_false_iff,decide_eq_false_iff_not,decide_eq_false_iff_not];omega
     simp only [d4,cond_false]
     refine ⟨((mid:Int),(s:Int),(e:Int)),0,trivial,rfl,rfl,G,Mg,bT.refl n a mid G,?_⟩
     by_cases YM:s=a
     ·rw [← YM];exact t2
     ·have:s=mid:=by omega
      rw [← this];exact t1
   rintro _ H5 ⟨rfl,g1,Jt,Gg,Qp⟩
   have o5 : ∀x,mid≤x→g1 x=G x:=fun x hx=>Gg.out x (.inr hx)
   have u3:jv L.toOrdr g1 mid e:=t3.congr fun i hi _=>o5 i hi
   have u4:jv L.toOrdr g1 e b:=t4.congr fun i hi _=>o5 i (by omega)
   have last : ∀ {g2:Nat→Nat} {H' : AH},Z g2 H'→bT n mid b g2 g1→jv L.toOrdr g2 mid b→∃g,Left L H bk n g (.tuple []) H'∧jv L.toOrdr g a b∧bT n a b g f:=by
    intro g2 H' hz hr hs
    exact fin hz (merged Gg hr Qp hs (by omega) t5) ((hr.sub (by omega) (Nat.le_refl _)).trans ((Gg.sub (Nat.le_refl _) (by omega)).trans YR))
   by_cases hc:mid<e∧e<b
   ·have d4:(decide ((mid:Int)<(e:Int)) && decide ((e:Int)<(b:Int)))=true:=by rw [Bool.and_eq_true,decide_eq_true_iff,decide_eq_true_iff];omega
    simp only [d4,cond_true]
    have P8:=Jt
    rw [hZ] at P8
    obtain ⟨y1,y2,y3⟩:=P8
    refine (ih (b - mid) (by omega) (a:=mid) (b:=b) rfl y1 hn hc.1 hc.2 hb u3 u4 (LQ.congr (f:=G) t7 (fun i hi _=>o5 i hi) (by omega))).mono ?_
    rintro v H6 ⟨g,⟨rfl,k1,k2,k3⟩,OS,Ub⟩
    refine last ?_ Ub OS
    rw [hZ];exact ⟨k1,by omega,fun c hc tT=>by rw [k3 c (by omega) tT];exact y3 c hc tT⟩
   ·have d4:(decide ((mid:Int)<(e:Int)) && decide ((e:Int)<(b:Int)))=false:=by
     rw [Bool.and_eq_false_iff,decide_eq_false_iff_not,decide_eq_false_iff_not];omega
    simp only [d4,cond_false]
    refine last Jt (bT.refl n mid b g1) ?_
    by_cases Y0:e=mid
    ·rw [← Y0];exact u4
    ·have:e=b:=by omega
     rw [← this];exact u3
end
end Go.Proofs.YtlkdhhkncoekgaaDoor
