/- The law MarkTold over numbers, texts, heaps: nothing is told just where what is kept is alike; what is kept is right, in normal form, without empty lines. -/
import Derived.Test.YtlkdhhkncoekgaaGreatDoorSameG
import Derived.Test.YtlkdhhkncoekgaaGreatDoorKeepF
import Derived.Test.YtlkdhhkncoekgaaGreatDoorKnown
namespace Go.Proofs.YtlkdhhkncoekgaaGreatDoor
open Go.Am Go
structure Kept (d:Int) (bl:Bool) (s:List UInt8) (L:Nat→aj) (n:Nat) (S:List UInt8) (sp:List av) (sg en sn:Nat):Prop where
 norm:jD S ((iO d (dB bl (eC d bl s L n)).l).1.map Prod.snd) sp
 text:S=aH (dB bl (eC d bl s L n)).l
 sg:sg=(dB bl (eC d bl s L n)).sg
 en:en=(dB bl (eC d bl s L n)).en
 sn:sn=(iO d (dB bl (eC d bl s L n)).l).2
theorem Lo {d:Int} {bl:Bool} {s:List UInt8} {n:Nat} {so:List av} (hn:aE s n) (hr:qX s n so) {R:cT×Nat} (hR:R=iO d (dB bl (eC d bl s (fun i:Nat=>bw so (i:Int)) n)).l)
  {er:Int} {S:List UInt8} {sp:List av} (h:(4096<(aH R.1).length∧er=3∧S=[]∧sp=[])∨((aH R.1).length≤4096∧er=Jr (aR (bt (R.1.map Prod.snd)))∧S=Ci (aR (bt (R.1.map Prod.snd))) (aH R.1)∧sp=lS (aR (bt (R.1.map Prod.snd))))) :
  (er ≠ 0∧(er=3∨er=2))∨(er=0∧Kept d bl s (fun i:Nat=>bw so (i:Int)) n S sp (dB bl (eC d bl s (fun i:Nat=>bw so (i:Int)) n)).sg (dB bl (eC d bl s (fun i:Nat=>bw so (i:Int)) n)).en R.2):=by
 rcases h with ⟨_,rfl,_,_⟩ | ⟨h1,h2,h3,h4⟩
 ·exact .inl ⟨by decide,.inl rfl⟩
 ·rcases Nat.lt_or_ge 256 (aR (bt (R.1.map Prod.snd))).length with g | g
  ·rw [(kQ g []).1] at h2
   exact .inl ⟨by omega,.inr h2⟩
  ·rw [(ki g []).1] at h2
   rw [(ki g _).2.1] at h3
   rw [(ki g []).2.2] at h4
   have hE:=mm (d:=d) (bl:=bl) (L:=fun i:Nat=>bw so (i:Int)) hn
   have GU:=jZ d (dB bl (eC d bl s (fun i:Nat=>bw so (i:Int)) n)).l
   rw [← hR] at GU
   have GP:aH R.1=aH (dB bl (eC d bl s (fun i:Nat=>bw so (i:Int)) n)).l:=by rw [hR];exact CF _ _
   refine .inr ⟨h2,⟨?_,?_,?_,?_,?_⟩,by rw [h3];exact GP,rfl,rfl,by rw [hR]⟩
   ·rw [← hR,h3,GP,List.length_map,GU.len];exact hE.cW
   ·rw [h3];exact h1
   ·rw [← hR]
    intro a ha
    obtain ⟨p,hp,rfl⟩:=List.mem_map.1 ha
    refine GU.ok (fun p hp=>?_) p hp
    obtain ⟨i,_,e⟩:=hE.from_ p hp
    rw [e];exact AR hr.fits hr.uW i
   ·rw [← hR,h4]
   ·rw [h4];exact g
set_option maxHeartbeats 1000000 in
set_option maxRecDepth 100000 in
theorem G8 (e1 e2:TypeId) (d:Int) (s:List UInt8) (bl:Bool) {H:AH} (hT:gm (bO e1 e2) H) (hG:lu≤H.n) {q:Option Nat} {cp:Nat} {so:List av} (hq:fE H q cp so) :
  bL Tryz.prog 4 [.int .i64 d,.agg [.str s,.slice (q.map fun b=>(b,0)) so.length cp],.bool bl] H fun v _=>v=.bool true:=by
 obtain ⟨n,hn⟩:=aE.ex s
 obtain ⟨Q,hQ⟩ : ∃Q:AV→AH→Prop,Q=fun v _=>v=.bool true:=⟨_,rfl⟩
 rw [← hQ]
 refine bP (aS:=_) (c9:=_) aq (Eq.mpr (Kt (real Tryz.prog) (Iter Tryz.prog) d s (q.map fun b=>(b,0)) so.length cp bl H Q) ?_)
 simp only [bu,aU,aQ,aP,aF,bU,HP,Av]
 obtain ⟨A,hA⟩ : ∃A,A=H.alloc (.cells [.str s,.slice (q.map fun b=>(b,0)) so.length cp] 24 { whole:=true }):=⟨_,rfl⟩
 rw [← hA]
 have ag:A.get H.n=some (.cells [.str s,.slice (q.map fun b=>(b,0)) so.length cp] 24 { whole:=true }):=by rw [hA,AH.aa,if_pos rfl]
 have ao : ∀c,c<H.n→A.get c=H.get c:=fun c hc=>by rw [hA,AH.aa,if_neg (by omega)]
 have an:A.n=H.n+1:=by rw [hA];rfl
 have hTA:gm (bO e1 e2) A:=by
  rw [hA]
  refine hT.alloc (fun t ht=>?_) _
  have:=(qf e1 e2 t ht).1
  rw [j5] at this
  omega
 refine ⟨(by trivial),(CV e1 e2).use hTA ?_⟩
 rintro v rfl
 refine ⟨true,rfl,?_⟩
 simp only [Bool.not_true,cond_false]
 have Uh : ∀ {K:AH},K.get H.n=A.get H.n→K.read H.n 0 2=some [.str s,.slice (q.map fun b=>(b,0)) so.length cp]:=fun {K} h=>by unfold AH.read;rw [h,ag];rfl
 refine ⟨fun y K=>y=(H.n,!((decide (1≤d) && decide (d≤4)) && qU s n so == 0))∧A.n≤K.n∧∀c,c<A.n→K.get c=A.get c,(vR d).c7 ⟨_,rfl,_,_,_,_,Uh rfl,?_⟩,?_⟩
 ·cases hd:(decide (1≤d) && decide (d≤4)) with
  | true =>
   have e:((!true) == false)=true:=rfl
   rw [e]
   simp only [cond_true]
   refine (KM s n hn (hq.eA (by omega) ao)).mono ?_
   rintro v B ⟨rfl,b1,b2⟩
   exact ⟨_,rfl,(H.n,!(qU s n so == 0)),0,trivial,rfl,by rw [Bool.true_and],b1,b2⟩
  | false =>
   have e:((!false) == false)=false:=rfl
   rw [e]
   simp only [cond_false]
   exact ⟨(H.n,true),0,trivial,rfl,rfl,Nat.le_refl _,fun _ _=>by trivial⟩
 rintro _ K ⟨rfl,k1,k2⟩
 simp only
 cases hg:((decide (1≤d) && decide (d≤4)) && qU s n so == 0) with
 | false =>
  simp only [Bool.not_false,cond_true]
  rw [hQ]
 | true =>
  simp only [Bool.not_true,cond_false]
  rw [Bool.and_eq_true,Bool.and_eq_true,decide_eq_true_eq,decide_eq_true_eq,beq_iff_eq] at hg
  have hd:=hg.1
  have hr:=JA hg.2
  have Ur : ∀c,c<H.n→K.get c=H.get c:=fun c hc=>(k2 c (by omega)).trans (ao c hc)
  refine ⟨_,_,_,_,Uh (k2 _ (by omega)),?_⟩
  refine (Pn d hd s n hn hr.len hr.Dh hr.fits hr.uW bl (hq.eA (by omega) Ur)).mono ?_
  rintro v B ⟨er,S,sp,q3,rfl,uK,b1,b2,b3,b4⟩
  obtain ⟨L,hL⟩ : ∃L:Nat→aj,L=fun i:Nat=>bw so (i:Int):=⟨_,rfl⟩
  obtain ⟨C,hC⟩ : ∃C,C=(B.alloc (.cells [.str [],.slice none 0 0] 24 { whole:=true })).set B.n (.cells [.str S,sl q3 sp.length] 24 { whole:=true }):=⟨_,rfl⟩
  have cg:C.get B.n=some (.cells [.str S,.slice (q3.map fun b=>(b,0)) sp.length sp.length] 24 { whole:=true }):=by rw [hC,AH.af,if_pos rfl];rfl
  have co : ∀c,c<B.n→C.get c=B.get c:=fun c hc=>by rw [hC,AH.af,if_neg (by omega),AH.aa,if_neg (by omega)]
  have cn:C.n=B.n+1:=by rw [hC];simp
  refine ⟨S,q3.map fun b=>(b,0),sp.length,sp.length,_,_,_,er,rfl,rfl,C,by rw [hC];simp [AH.write,AH.aa,aA,AV.one,sl],?_⟩
  rcases Lo hn hr rfl uK with ⟨h0,h1⟩ | ⟨rfl,hk⟩
  ·have e:(er != 0)=true:=by rw [bne_iff_ne];exact h0
   rw [e]
   simp only [cond_true]
   rw [hQ]
   rcases h1 with rfl | rfl <;> first | rfl | trivial
  have n0:((0:Int) != 0)=false:=by decide
  have b0:((0:Int) == 0)=true:=by decide
  simp only [n0,b0,cond_false,cond_true]
  rw [← hL] at hk ⊢
  obtain ⟨x,hx⟩ : ∃x,x=dB bl (eC d bl s L n):=⟨_,rfl⟩
  rw [← hx]
  obtain ⟨M,hM⟩ : ∃M,M=(iO d x.l).1.map Prod.snd:=⟨_,rfl⟩
  have hN:jD S M sp:=by rw [hM,hx];exact hk.norm
  have VJ:S=aH x.l:=by rw [hx];exact hk.text
  have hE:KE s L n x:=by rw [hx];exact mm hn
  have GU:=jZ d x.l
  have X7:M.length=x.l.length:=by rw [hM,List.length_map,GU.len]
  have VI:ep C q3 sp:=.of (b1.same fun b hb=>co b (b2 b hb).2) fun b hb=>by have:=b2 b hb;omega
  have SZ : ∀ {K' : AH},K'.get B.n=C.get B.n→K'.read B.n 0 2=some [.str S,.slice (q3.map fun b=>(b,0)) sp.length sp.length]:=fun {K'} h=>by unfold AH.read;rw [h,cg];rfl
  have cA : ∀c,c<A.n→C.get c=A.get c:=fun c hc=>by rw [co c (by omega),b4 c (by omega)];exact k2 c hc
  refine ⟨_,_,_,_,SZ rfl,?_⟩
  refine (HU hN VI.sp).mono ?_
  rintro v D ⟨rfl,d1,d2⟩
  refine ⟨true,rfl,?_⟩
  have hen:bl=true→x.en=0:=fun h=>by rw [hx,h,FM];exact A6 d s L n
  have Ss:(!true || decide ((x.sg:Int)<0) || decide ((x.en:Int)<0) || decide (((iO d x.l).2:Int)<0) || bl && (x.en:Int) != 0)=false:=by
   rw [decide_eq_false (by omega),decide_eq_false (by omega),decide_eq_false (by omega)]
   cases hb:bl with
   | false=>rfl
   | true=>rw [hen hb];rfl
  rw [Ss]
  simp only [cond_false]
  refine ⟨_,_,_,_,SZ (d2 _ (by omega)),_,_,_,_,Uh (by rw [d2 _ (by omega)];exact cA _ (by omega)),?_⟩
  have hRN:qX S M.length sp:=⟨hN.len,hN.Dh,hN.fits,hN.uW⟩
  have VZ : ∀c,c<A.n→D.get c=A.get c:=fun c hc=>by rw [d2 c (by omega)];exact cA c hc
  refine (HT S s M.length n hN.cW hn hRN hr (VI.eA d1 d2).sp (hq.eA (by omega) fun c hc=>by rw [VZ c (by omega)];exact ao c hc)).mono ?_
  rintro v E ⟨⟨w,rfl,hw⟩,Yn,VX⟩
  refine ⟨w,rfl,?_⟩
  have Vh:((x.sg:Int) == 0 && (x.en:Int) == 0 && ((iO d x.l).2:Int) == 0)=w:=by
   rw [Bool.eq_iff_iff,Bool.and_eq_true,Bool.and_eq_true,beq_iff_eq,beq_iff_eq,beq_iff_eq,hw]
   have ht:=G9 hn x hx
   have Na : ∀i:Nat,i<M.length→bw sp (i:Int)=ga (iO d x.l).1 i:=fun i hi=>by
    have wY:i<(iO d x.l).1.length:=by rw [GU.len,← X7];exact hi
    rw [rO hN.perm hi,mZ wY]
    simp only [hM,List.getElem_map]
   constructor
   ·rintro ⟨⟨h1,h2⟩,h3⟩
    obtain ⟨g1,g2⟩:=ht.1 ⟨by omega,by omega,by omega⟩
    refine ⟨VJ.trans g1,fun i hi=>?_⟩
    have Q2:x.l.length=n:=by have:=hE.count;omega
    rw [Na i hi,g2 i (by omega),hL]
   ·rintro ⟨h1,h2⟩
    have hMn:M.length=n:=by have:=hN.cW;rw [h1] at this;exact this.uniq hn
    obtain ⟨g1,g2,g3⟩:=ht.2 ⟨VJ.symm.trans h1,fun i hi=>by rw [← Na i (by omega),h2 i (by omega),hL]⟩
    omega
  rw [Vh]
  have e3:(!(w == w))=false:=by simp
  rw [e3]
  simp only [cond_false]
  have aa2:B.n<E.n:=by omega
  have eB:E.get B.n=C.get B.n:=(VX _ (by omega)).trans (d2 _ (by omega))
  have X5:ep E q3 sp:=(VI.eA d1 d2).eA Yn VX
  refine ⟨_,_,_,_,SZ eB,?_⟩
  refine (KO hN X5.sp).mono ?_
  rintro v F ⟨r,rfl,f1,f2,f3,f4⟩
  obtain ⟨G,TF⟩ : ∃G,G=(F.alloc (.cells [.str [],.slice none 0 0] 24 { whole:=true })).set F.n (.cells [.str S,sl r sp.length] 24 { whole:=true }):=⟨_,rfl⟩
  have gg:G.get F.n=some (.cells [.str S,.slice (r.map fun b=>(b,0)) sp.length sp.length] 24 { whole:=true }):=by rw [TF,AH.af,if_pos rfl];rfl
  have go : ∀c,c<F.n→G.get c=F.get c:=fun c hc=>by rw [TF,AH.af,if_neg (by omega),AH.aa,if_neg (by omega)]
  have gn:G.n=F.n+1:=by rw [TF];simp
  have gB:G.get B.n=C.get B.n:=by rw [go _ (by omega),f4 _ (by omega)];exact eB
  refine ⟨S,r.map fun b=>(b,0),sp.length,sp.length,0,rfl,rfl,G,by rw [TF];simp [AH.write,AH.aa,aA,AV.one,sl],fun y K'=>y=(B.n,false)∧B.n<K'.n∧K'.get B.n=C.get B.n,⟨_,_,_,_,by unfold AH.read;rw [gg];rfl,_,_,_,_,SZ gB,?_⟩,?_⟩
  ·have c0:(((0:Int) != 0) == false)=true:=by decide
   rw [c0]
   simp only [cond_true]
   have hTG:ep G q3 sp:=X5.eA (by omega) fun c hc=>by rw [go c (by omega)];exact f4 c hc
   have hRG:ep G r sp:=.of (f1.same fun b hb=>go b (f2 b hb).2) fun b hb=>by have:=f2 b hb;omega
   refine (KL S (by have:=hN.Dh;omega) hRG.sp hTG.sp).mono ?_
   rintro v K' ⟨rfl,g1,g2⟩
   exact ⟨true,rfl,(B.n,false),0,trivial,rfl,rfl,by omega,by rw [g2 _ (by omega)];exact gB⟩
  ·rintro _ K' ⟨rfl,g1,g2⟩
   simp only [cond_false]
   have hR:=CW (d:=d) (bl:=bl) (L:=L) hn x hx
   rw [← VJ] at hR
   obtain ⟨N,R4⟩ : ∃N,N=x.l.length:=⟨_,rfl⟩
   rw [← R4] at hR
   have rS : ∀ {K2:AH},K2.get B.n=C.get B.n→K2.ak B.n 0=some (.str S):=fun {K2} h=>by unfold AH.ak;rw [h,cg];rfl
   refine ⟨S,rS g2,fun y K2 k=>∃j:Nat,y=(B.n,(if j=0 then 10 else ig S (j - 1)),K'.n)∧j≤N∧K2.get K'.n=some (.iter S (place S j))∧K2.get B.n=C.get B.n∧k=N - j,
    ⟨(B.n,10,K'.n),N,rfl,0,rfl,Nat.zero_le _,by rw [AH.aa,if_pos rfl];rfl,by rw [AH.aa,if_neg (by omega)];exact g2,rfl⟩,?_⟩
   rintro _ K2 _ ⟨j,rfl,hj,To,XN,rfl⟩
   refine ⟨S,place S j,To,fun cu=>?_,fun OO=>?_⟩
   ·have RC:j<N:=by
     rcases Nat.lt_or_ge j N with g | g
     ·exact g
     ·have:j=N:=by omega
      rw [this,hR.cW.1] at cu;omega
    have Oz:((ah S (place S j)).1:Int)=ig S j:=rfl
    rw [Oz]
    have c1:(!bl && ig S j == 10 && (if j=0 then 10 else ig S (j - 1)) == 10)=false:=by
     cases hb:bl with
     | true=>rfl
     | false =>
      by_cases Ka:ig S j=10
      ·obtain ⟨g0,Yi⟩:=hR.line hb j RC Ka
       rw [if_neg (by omega)]
       have:(ig S (j - 1) == 10)=false:=by rw [beq_eq_false_iff_ne];exact Yi
       rw [this,Bool.and_false]
      ·have:(ig S j == 10)=false:=by rw [beq_eq_false_iff_ne];exact Ka
       rw [this,Bool.and_false,Bool.false_and]
    have c2:(decide (ig S j<32) && ig S j != 10)=false:=by
     rcases hR.low j RC with g | g
     ·rw [g];rfl
     ·rw [decide_eq_false (by omega),Bool.false_and]
    simp only [c1,c2,cond_false]
    refine ⟨(B.n,ig S j,K'.n),N - (j+1),by omega,rfl,j+1,?_,by omega,by rw [AH.af,if_pos rfl];rfl,by rw [AH.af,if_neg (by omega)];exact XN,rfl⟩
    rw [if_neg (by omega),Nat.add_sub_cancel]
   ·have RC:j=N:=by
     rcases Nat.lt_or_ge j N with g | g
     ·exact absurd (hR.cW.2 j g) OO
     ·omega
    refine ⟨S,rS XN,?_⟩
    rw [hQ]
    have:(bl || S == [] || (if j=0 then 10 else ig S (j - 1)) != 10)=true:=by
     cases hb:bl with
     | true=>rfl
     | false =>
      by_cases h0:j=0
      ·have Je:S=[]:=by
        have:=hR.cW.1
        rw [← RC,h0] at this
        exact List.length_eq_zero_iff.1 this.symm
       rw [Je];rfl
      ·have hl:=hR.last hb (by omega)
       rw [if_neg h0,RC]
       have:(ig S (N - 1) != 10)=true:=by rw [bne_iff_ne];exact hl
       rw [this,Bool.or_true]
    simp only [this]
end Go.Proofs.YtlkdhhkncoekgaaGreatDoor
