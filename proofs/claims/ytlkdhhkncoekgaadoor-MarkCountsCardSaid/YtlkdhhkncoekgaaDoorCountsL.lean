/- The law MarkCounts over numbers, texts, heaps: as many signs as before; so many of them are others, so many look otherwise. -/
import Derived.Test.YtlkdhhkncoekgaaDoorKeptG
import Derived.Test.YtlkdhhkncoekgaaDoorCountP
import Derived.Test.YtlkdhhkncoekgaaDoorCountsVc
import Derived.Test.YtlkdhhkncoekgaaDoorKnown
namespace Go.Proofs.YtlkdhhkncoekgaaDoor
open Go.Am Go
def lC (r:Int):List AV:=[.int .i32 r]
def dX (s:List UInt8) (j:Nat):List Int:=(List.range j).map (gq s)
theorem bK (s:List UInt8) (j:Nat):(dX s j).length=j:=by simp [dX]
theorem oA (s:List UInt8) (j:Nat):dX s (j+1)=dX s j ++ [gq s j]:=by simp [dX,List.range_succ]
theorem rf {H:AH} {q:Option Nat} {l:List Int} {y:Int} {c:Nat} {fl:Fl} (hl:bI H q l.length (flat lC l) 21) (hc:H.get c=some (.cells (lC y) 21 fl)) (hm:l.length≤1000000) :
  ∃H',bZ Tryd.prog H 49 49 (sl q l.length) (.slice (some (c,0)) 1 1)=some (sl (some H.n) (l ++ [y]).length,H')∧H'.n=H.n+1∧bI H' (some H.n) (l ++ [y]).length (flat lC (l ++ [y])) 21∧∀c,c<H.n→q ≠ some c→H'.get c=H.get c :=
 eZ (mT:=4) (s:=1) (z:=.int .i32 0) (by kernel_rfl) (by kernel_rfl) (by kernel_rfl) (by kernel_rfl) rfl (by decide) (fun _=>rfl) (fun _=>rfl) hl hc (by omega)
theorem vz {K:AH} {q:Option Nat} {s:List UInt8} {n i:Nat} (h:bI K q n (flat lC (dX s n)) 21) (hi:i<n) : ∃b,q=some b∧K.ak b (0+((i:Nat):Int).toNat*1)=some (.int .i32 (gq s i)):=by
 cases q with
 | none=>have:=h.1;omega
 | some b =>
  refine ⟨b,rfl,?_⟩
  have hl:=bK s n
  have:=j4 (f:=lC) (w:=1) (fun _=>rfl) (H:=K) (b:=b) (i:=i) (k:=0) h (by omega) (by decide)
  rw [Int.toNat_natCast,show 0+i*1=0+i*1+0 by omega,this]
  simp only [dX,List.getElem_map,List.getElem_range]
  rfl
set_option maxHeartbeats 2000000 in
set_option maxRecDepth 100000 in
theorem CT (e1 e2:TypeId) (d:Int) (s:List UInt8) (bl:Bool) {H:AH} (hT:gh (bG e1 e2) H) (hG:kG≤H.n) {q:Option Nat} {cp:Nat} {so:List ay} (hq:iG H q cp so) :
  bH Tryd.prog 9 [.int .i64 d,.agg [.str s,.slice (q.map fun b=>(b,0)) so.length cp],.bool bl] H fun v _=>v=.bool true:=by
 obtain ⟨n,hn⟩:=aD.ex s
 obtain ⟨Q,hQ⟩ : ∃Q:AV→AH→Prop,Q=fun v _=>v=.bool true:=⟨_,rfl⟩
 rw [← hQ]
 refine ck (aT:=_) (dY:=_) au (Eq.mpr (FI (real Tryd.prog) (Iter Tryd.prog) d s (q.map fun b=>(b,0)) so.length cp bl H Q) ?_)
 simp only [bL,bq,aY,bh,aJ,cm,Hi,zL,aL,fD,AH.aZ]
 obtain ⟨A,hA⟩ : ∃A,A=H.alloc (.cells [.str s,.slice (q.map fun b=>(b,0)) so.length cp] 26 { whole:=true }):=⟨_,rfl⟩
 rw [← hA]
 have ag:A.get H.n=some (.cells [.str s,.slice (q.map fun b=>(b,0)) so.length cp] 26 { whole:=true }):=by rw [hA,AH.aa,if_pos rfl]
 have ao : ∀c,c<H.n→A.get c=H.get c:=fun c hc=>by rw [hA,AH.aa,if_neg (by omega)]
 have an:A.n=H.n+1:=by rw [hA];rfl
 have ZF:gh (bG e1 e2) A:=by
  rw [hA]
  refine hT.alloc (fun t ht=>?_) _
  have:=(pO e1 e2 t ht).1
  rw [jD] at this
  omega
 refine ⟨(by trivial),(Ci e1 e2).use ZF ?_⟩
 rintro v rfl
 refine ⟨true,rfl,?_⟩
 simp only [Bool.not_true,cond_false]
 have R6 : ∀ {K:AH},K.get H.n=A.get H.n→K.read H.n 0 2=some [.str s,.slice (q.map fun b=>(b,0)) so.length cp]:=fun {K} h=>by unfold AH.read;rw [h,ag];rfl
 refine ⟨fun y K=>y=(d,H.n,!((decide (1≤d) && decide (d≤4)) && qp s n so == 0))∧A.n≤K.n∧∀c,c<A.n→K.get c=A.get c,(vg d).dS ⟨_,rfl,_,_,_,_,R6 rfl,?_⟩,?_⟩
 ·cases hd:(decide (1≤d) && decide (d≤4)) with
  | true =>
   have e:((!true) == false)=true:=rfl
   rw [e]
   simp only [cond_true]
   refine (J7 s n hn (hq.gM (by omega) ao)).mono ?_
   rintro v B ⟨rfl,b1,b2⟩
   exact ⟨_,rfl,(d,H.n,!(qp s n so == 0)),0,trivial,rfl,by rw [Bool.true_and],b1,b2⟩
  | false =>
   have e:((!false) == false)=false:=rfl
   rw [e]
   simp only [cond_false]
   exact ⟨(d,H.n,true),0,trivial,rfl,rfl,Nat.le_refl _,fun _ _=>by trivial⟩
 rintro _ K ⟨rfl,k1,k2⟩
 simp only
 cases hg:((decide (1≤d) && decide (d≤4)) && qp s n so == 0) with
 | false =>
  simp only [Bool.not_false,cond_true]
  rw [hQ]
 | true =>
  simp only [Bool.not_true,cond_false]
  rw [Bool.and_eq_true,Bool.and_eq_true,decide_eq_true_eq,decide_eq_true_eq,beq_iff_eq] at hg
  have hd:=hg.1
  have hr:=IW hg.2
  have Ct:n≤s.length:=by have:=dJ hn.2;have:=hn.1;omega
  have NN:=hr.len
  have TA : ∀c,c<H.n→K.get c=H.get c:=fun c hc=>(k2 c (by omega)).trans (ao c hc)
  refine ⟨_,_,_,_,R6 (k2 _ (by omega)),?_⟩
  refine (Jg d hd s n hn hr.len hr.Jx hr.fits hr.AM true (hq.gM (by omega) TA)).mono ?_
  rintro v B ⟨er,S,sp,q3,rfl,tU,b1,b2,b3,b4⟩
  obtain ⟨L,hL⟩ : ∃L:Nat→aj,L=fun i:Nat=>bt so (i:Int):=⟨_,rfl⟩
  obtain ⟨C,hC⟩ : ∃C,C=(B.alloc (.cells [.str [],.slice none 0 0] 26 { whole:=true })).set B.n (.cells [.str S,sl q3 sp.length] 26 { whole:=true }):=⟨_,rfl⟩
  have cg:C.get B.n=some (.cells [.str S,.slice (q3.map fun b=>(b,0)) sp.length sp.length] 26 { whole:=true }):=by rw [hC,AH.af,if_pos rfl];rfl
  have co : ∀c,c<B.n→C.get c=B.get c:=fun c hc=>by rw [hC,AH.af,if_neg (by omega),AH.aa,if_neg (by omega)]
  have cn:C.n=B.n+1:=by rw [hC];simp
  refine ⟨S,q3.map fun b=>(b,0),sp.length,sp.length,_,_,_,er,rfl,rfl,C,by rw [hC];simp [AH.write,AH.aa,ax,AV.one,sl],?_⟩
  rcases Kw hn hr rfl tU with ⟨h0,h1⟩ | ⟨rfl,hk⟩
  ·have e:(er != 0)=true:=by rw [bne_iff_ne];exact h0
   rw [e]
   simp only [cond_true]
   rw [hQ]
   rcases h1 with rfl | rfl <;> first | rfl | trivial
  have n0:((0:Int) != 0)=false:=by decide
  have b0:((0:Int) == 0)=true:=by decide
  simp only [n0,b0,cond_false,cond_true]
  rw [← hL] at hk ⊢
  rw [vT]
  have Bg:=Lt (d:=d) (L:=L) hn
  have Ft:=yF (d:=d) (L:=L) hn
  obtain ⟨x,hx⟩ : ∃x,x=eE d true s L n:=⟨_,rfl⟩
  have Zm:x.en=0:=by rw [hx];exact oU d s L n
  have WM:=hk.text
  have KQ:=hk.norm
  rw [vT,← hx] at WM KQ
  rw [← hx] at Bg Ft ⊢
  rw [← WM] at Bg Ft
  obtain ⟨M,hM⟩ : ∃M,M=(dK d x.l).1.map Prod.snd:=⟨_,rfl⟩
  have hN:kM S M sp:=by rw [hM];exact KQ
  have Gr:=jA d x.l
  have OP:x.l.length=n:=by rw [hx];exact Bg.len
  have ZK:M.length=n:=by rw [hM,List.length_map,Gr.len];exact OP
  have YI:x.sg≤n:=by have:=(KI.all (d:=d) (bl:=true) (L:=L) hn (Nat.le_refl n)).yP;rw [← hx] at this;exact this
  have QC : ∀i:Nat,i<n→bt sp (i:Int)=fZ (dK d x.l).1 i:=fun i hi=>by
   have v8:i<(dK d x.l).1.length:=by rw [Gr.len];omega
   rw [Ac hN.perm (by omega),mE v8]
   simp only [hM,List.getElem_map]
  have ZE:fL C q3 sp:=.of (b1.same fun b hb=>co b (b2 b hb).2) fun b hb=>by have:=b2 b hb;omega
  have cA : ∀c,c<A.n→C.get c=A.get c:=fun c hc=>by rw [co c (by omega),b4 c (by omega)];exact k2 c hc
  have Yb : ∀ {K' : AH},K'.get B.n=C.get B.n→K'.read B.n 0 2=some [.str S,.slice (q3.map fun b=>(b,0)) sp.length sp.length]:=fun {K'} h=>by unfold AH.read;rw [h,cg];rfl
  have w8 : ∀i:Nat,i≤100000→IntKind.i64.wrap ((i:Int)+1)=((i+1:Nat):Int):=fun i hi=>by rw [wrap_i64 (by omega) (by omega)];omega
  refine ⟨s,by unfold AH.ak;rw [cA _ (by omega),ag];rfl,fun y K' k=>∃(j:Nat) (qa:Option Nat),y=((d,H.n,B.n,(x.sg:Int),(x.en:Int),((dK d x.l).2:Int)),(qa.map (fun b=>(b,0)),j),C.n)∧j≤n∧C.n<K'.n∧K'.get C.n=some (.iter s (place s j))∧bI K' qa j (flat lC (dX s j)) 21∧(∀b,qa=some b→C.n<b∧b<K'.n)∧(∀c,c<C.n→K'.get c=C.get c)∧k=n - j,
   ⟨((d,H.n,B.n,(x.sg:Int),(x.en:Int),((dK d x.l).2:Int)),(none,0),C.n),n,rfl,0,none,rfl,Nat.zero_le _,by simp,by rw [AH.aa,if_pos rfl];rfl,⟨rfl,rfl⟩,(fun b hb=>by cases hb),fun c hc=>by rw [AH.aa,if_neg (by omega)],rfl⟩,?_⟩
  rintro _ K1 _ ⟨j,qa,rfl,hj,Wl,Sw,QH,nj,Dz,rfl⟩
  refine ⟨s,place s j,Sw,fun cv=>?_,fun KT=>?_⟩
  ·have Iq:j<n:=by
    rcases Nat.lt_or_ge j n with g | g
    ·exact g
    ·have:j=n:=by omega
     rw [this,hn.1] at cv;omega
   obtain ⟨K2,DI⟩ : ∃K2,K2=(K1.set C.n (.iter s (place s j+(ah s (place s j)).2))).alloc (.cells (lC (gq s j)) 21 { whole:=true }):=⟨_,rfl⟩
   have n2:K2.n=K1.n+1:=by rw [DI];simp
   have i2:K2.get C.n=some (.iter s (place s (j+1))):=by rw [DI,AH.aa,if_neg (by simp only [AH.aZ];omega),AH.af,if_pos rfl];rfl
   have o2 : ∀c,c<K1.n→c ≠ C.n→K2.get c=K1.get c:=fun c h1 h2=>by rw [DI,AH.aa,if_neg (by simp only [AH.aZ];omega),AH.af,if_neg h2]
   obtain ⟨K3,g1,g2,g3,g4⟩:=rf (H:=K2) (q:=qa) (l:=dX s j) (y:=gq s j) (c:=K1.n) (fl:={ whole:=true })
    (by rw [bK];exact QH.same fun b hb=>by have:=nj b hb;exact o2 b this.2 (by omega)) (by rw [DI,AH.aa,if_pos (by simp)]) (by rw [bK];omega)
   rw [← oA,bK] at g1 g3
   rw [bK] at g1
   refine ⟨⟨by decide,(by trivial),by decide,(by trivial),(by trivial)⟩,some (K2.n,0),j+1,j+1,K3,by rw [DI] at g1 ⊢;exact g1,((d,H.n,B.n,(x.sg:Int),(x.en:Int),((dK d x.l).2:Int)),(some (K2.n,0),j+1),C.n),n - (j+1),by omega,rfl,j+1,some K2.n,rfl,by omega,by omega,?_,g3,fun b hb=>by cases hb;omega,fun c hc=>?_,rfl⟩
   ·rw [g4 _ (by omega) (fun e=>by have:=nj _ e;omega)];exact i2
   ·rw [g4 c (by omega) (fun e=>by have:=nj _ e;omega),o2 c (by omega) (by omega)];exact Dz c hc
  have Iq:j=n:=by
   rcases Nat.lt_or_ge j n with g | g
   ·exact absurd (hn.2 j g) KT
   ·omega
  subst Iq
  refine ⟨S,by unfold AH.ak;rw [Dz B.n (by omega),cg];rfl,fun y K' k=>∃(i:Nat) (qb:Option Nat),y=((d,H.n,B.n,(x.sg:Int),(x.en:Int),((dK d x.l).2:Int)),(qa.map (fun b=>(b,0)),j),(qb.map (fun b=>(b,0)),i),K1.n)∧i≤j∧K1.n<K'.n∧K'.get K1.n=some (.iter S (place S i))∧bI K' qb i (flat lC (dX S i)) 21∧(∀b,qb=some b→K1.n<b∧b<K'.n)∧(∀c,c<K1.n→K'.get c=K1.get c)∧k=j - i,
   ⟨((d,H.n,B.n,(x.sg:Int),(x.en:Int),((dK d x.l).2:Int)),(qa.map (fun b=>(b,0)),j),(none,0),K1.n),j,rfl,0,none,rfl,Nat.zero_le _,by simp,by rw [AH.aa,if_pos rfl];rfl,⟨rfl,rfl⟩,(fun b hb=>by cases hb),fun c hc=>by rw [AH.aa,if_neg (by omega)],rfl⟩,?_⟩
  rintro _ K2 _ ⟨i,qb,rfl,hi,k2n,UA,WL,Gh,TH,rfl⟩
  refine ⟨S,place S i,UA,fun cv=>?_,fun KT=>?_⟩
  ·have iX:i<j:=by
    rcases Nat.lt_or_ge i j with g | g
    ·exact g
    ·have:i=j:=by omega
     rw [this,Bg.ep.1] at cv;omega
   obtain ⟨K3,La⟩ : ∃K3,K3=(K2.set K1.n (.iter S (place S i+(ah S (place S i)).2))).alloc (.cells (lC (gq S i)) 21 { whole:=true }):=⟨_,rfl⟩
   have n3:K3.n=K2.n+1:=by rw [La];simp
   have i3:K3.get K1.n=some (.iter S (place S (i+1))):=by rw [La,AH.aa,if_neg (by simp only [AH.aZ];omega),AH.af,if_pos rfl];rfl
   have o3 : ∀c,c<K2.n→c ≠ K1.n→K3.get c=K2.get c:=fun c h1 h2=>by rw [La,AH.aa,if_neg (by simp only [AH.aZ];omega),AH.af,if_neg h2]
   obtain ⟨K4,g1,g2,g3,g4⟩:=rf (H:=K3) (q:=qb) (l:=dX S i) (y:=gq S i) (c:=K2.n) (fl:={ whole:=true })
    (by rw [bK];exact WL.same fun b hb=>by have:=Gh b hb;exact o3 b this.2 (by omega)) (by rw [La,AH.aa,if_pos (by simp)]) (by rw [bK];omega)
   rw [← oA,bK] at g1 g3
   rw [bK] at g1
   refine ⟨⟨by decide,(by trivial),by decide,(by trivial),(by trivial)⟩,some (K3.n,0),i+1,i+1,K4,by rw [La] at g1 ⊢;exact g1,((d,H.n,B.n,(x.sg:Int),(x.en:Int),((dK d x.l).2:Int)),(qa.map (fun b=>(b,0)),j),(some (K3.n,0),i+1),K1.n),j - (i+1),by omega,rfl,i+1,some K3.n,rfl,by omega,by omega,?_,g3,fun b hb=>by cases hb;omega,fun c hc=>?_,rfl⟩
   ·rw [g4 _ (by omega) (fun e=>by have:=Gh _ e;omega)];exact i3
   ·rw [g4 c (by omega) (fun e=>by have:=Gh _ e;omega),o3 c (by omega) (by omega)];exact TH c hc
  have iX:i=j:=by
   rcases Nat.lt_or_ge i j with g | g
   ·exact absurd (Bg.ep.2 i g) KT
   ·omega
  subst iX
  have c1:((i:Int) != (i:Int) || (x.en:Int) != 0)=false:=by rw [Zm];simp
  simp only [c1,cond_false]
  have l2 : ∀c,c<C.n→K2.get c=C.get c:=fun c hc=>(TH c (by omega)).trans (Dz c hc)
  have Tz : ∀c,c<A.n→K2.get c=A.get c:=fun c hc=>(l2 c (by omega)).trans (cA c hc)
  have KC:so.length≤1000000:=by have:=hr.Jx;omega
  have T4:sp.length≤1000000:=by have:=hN.Jx;omega
  refine ⟨_,_,_,_,R6 (Tz _ (by omega)),?_⟩
  refine (Ht s i hn NN KC (fun x hx=>CI (hr.fits x hx)) (hq.gM (by omega) fun c hc=>by rw [Tz c (by omega)];exact ao c hc)).mono ?_
  rintro v K3 ⟨qx,rfl,x1,x2,x3,x4⟩
  refine ⟨_,_,_,rfl,_,_,_,_,Yb (by rw [x4 _ (by omega)];exact l2 _ (by omega)),?_⟩
  refine (Ht S i Bg.ep hN.len T4 hN.v ((ZE.gM (by omega) l2).gM x3 x4).sp).mono ?_
  rintro v K4 ⟨qy,rfl,y1,y2,y3,y4⟩
  have Uv:bI K4 qa i (flat lC (dX s i)) 21:=QH.same fun b hb=>by have:=nj b hb;rw [y4 b (by omega),x4 b (by omega),TH b (by omega)]
  have Uu:bI K4 qb i (flat lC (dX S i)) 21:=WL.same fun b hb=>by have:=Gh b hb;rw [y4 b (by omega),x4 b (by omega)]
  have Uq:bI K4 qx i (flat aj.cells ((List.range i).map fun m:Nat=>bt so (m:Int))) 53:=x1.same fun b hb=>y4 b (x2 b hb).2
  obtain ⟨F9,NT⟩ : ∃F9:Nat→Bool,F9=fun m=>gq s m != gq S m:=⟨_,rfl⟩
  obtain ⟨Jn,NJ⟩ : ∃Jn:Nat→Bool,Jn=fun m:Nat=>!cW (bt so (m:Int)) (bt sp (m:Int)):=⟨_,rfl⟩
  obtain ⟨st,eF⟩ : ∃st:Nat→Nat→Nat→(Int×Nat×Int×Int)×((Option (Nat×Nat)×Nat)×(Option (Nat×Nat)×Nat)×(Option (Nat×Nat)×Nat)×Option (Nat×Nat)×Nat)×Int×Int×Int,st=fun (a b m:Nat)=>((d,H.n,(x.sg:Int),((dK d x.l).2:Int)),((qa.map (fun b=>(b,0)),i),(qb.map (fun b=>(b,0)),i),(qx.map (fun b=>(b,0)),i),qy.map (fun b=>(b,0)),i),((cnt F9 a:Nat):Int),((cnt Jn b:Nat):Int),(m:Int)):=⟨_,rfl⟩
  refine ⟨_,_,_,rfl,fun y K' k=>∃m:Nat,y=st m m m∧m≤i∧K4=K'∧k=i - m,⟨st 0 0 0,i,by rw [eF];rfl,0,rfl,Nat.zero_le _,rfl,rfl⟩,?_⟩
  rintro _ _ _ ⟨m,rfl,hm,rfl,rfl⟩
  have cl : ∀(p:Nat→Bool) (k:Nat),cnt p k≤k:=fun p k=>by
   induction k with
   | zero=>exact Nat.le_refl _
   | succ k ih=>rw [gG];cases p k <;> simp only [cond_true,cond_false] <;> omega
  by_cases At:m<i
  ·have dl:decide ((m:Int)<(i:Int))=true:=by rw [decide_eq_true_iff];omega
   rw [eF]
   simp only [dl,cond_true]
   obtain ⟨ba,rfl,ra⟩:=vz Uv At
   obtain ⟨bb,rfl,rb⟩:=vz Uu At
   obtain ⟨bx,Zw⟩ : ∃bx,qx=some bx:=by
    cases qx with
    | none=>have:=x1.1;omega
    | some bx=>exact ⟨bx,rfl⟩
   obtain ⟨by',Gp⟩ : ∃bx,qy=some bx:=by
    cases qy with
    | none=>have:=y1.1;omega
    | some bx=>exact ⟨bx,rfl⟩
   subst Zw;subst Gp
   have rx:=tw (K:=K4) (e:=53) (fl:={ fT:=true }) (F:=fun i:Nat=>bt so (i:Int)) Uq At
   have ry:=tw (K:=K4) (e:=53) (fl:={ fT:=true }) (F:=fun i:Nat=>bt sp (i:Int)) y1 At
   have co1:=cl F9 m
   have cu1:=cl Jn m
   refine ⟨fun y K'=>y=st (m+1) (m+1) m∧K4=K',⟨fun y K'=>y=st (m+1) m m∧K4=K',⟨ba,0,⟨rfl,by omega,by omega⟩,gq s m,ra,bb,0,⟨rfl,by omega,by omega⟩,gq S m,rb,?_⟩,?_⟩,?_⟩
   ·cases hc:(gq s m != gq S m) with
    | true =>
     simp only [cond_true]
     have ho:=Bg.F9 m At (by rw [bne_iff_ne] at hc;exact hc)
     have bd:((some ba).map (fun b=>(b,0))=some (ba,0)):=rfl
     refine ⟨bb,0,⟨rfl,by omega,by omega⟩,gq S m,rb,bb,0,fun _=>⟨rfl,by omega,by omega⟩,gq S m,fun _=>rb,bb,0,fun _=>⟨rfl,by omega,by omega⟩,gq S m,fun _=>rb,?_⟩
     have cc:(gq S m != 32 && (decide (gq S m<65280) || decide (gq S m > 65519)))=false:=by
      rcases ho with h | h
      ·rw [h];rfl
      ·rw [decide_eq_false (by omega),decide_eq_false (by omega),Bool.or_self,Bool.and_false]
     simp only [cc,cond_false]
     refine ⟨st (m+1) m m,0,trivial,?_,by rw [eF],(by trivial)⟩
     have:cnt F9 (m+1)=cnt F9 m+1:=by rw [gG,NT];simp only [hc,cond_true]
     rw [eF,w8 _ (by omega)]
     simp only [this]
    | false =>
     simp only [cond_false]
     refine ⟨st (m+1) m m,0,trivial,?_,by rw [eF],(by trivial)⟩
     have:cnt F9 (m+1)=cnt F9 m:=by rw [gG,NT];simp only [hc,cond_false];rfl
     rw [eF]
     simp only [this]
   ·rintro _ _ ⟨rfl,rfl⟩
    rw [eF]
    simp only
    refine ⟨bx,0,⟨rfl,by omega,by omega⟩,_,_,_,_,_,rx,by',0,⟨rfl,by omega,by omega⟩,_,_,_,_,_,ry,?_⟩
    rw [Et]
    cases hc:cW (bt so (m:Int)) (bt sp (m:Int)) with
    | false =>
     simp only [Bool.not_false,cond_true]
     refine ⟨st (m+1) (m+1) m,0,trivial,?_,by rw [eF],(by trivial)⟩
     have:cnt Jn (m+1)=cnt Jn m+1:=by rw [gG,NJ];simp only [hc,Bool.not_false,cond_true]
     rw [eF,w8 _ (by omega)]
     simp only [this]
    | true =>
     simp only [Bool.not_true,cond_false]
     refine ⟨st (m+1) (m+1) m,0,trivial,?_,by rw [eF],(by trivial)⟩
     have:cnt Jn (m+1)=cnt Jn m:=by rw [gG,NJ];simp only [hc,Bool.not_true,cond_false];rfl
     rw [eF]
     simp only [this]
   ·rintro _ _ ⟨rfl,rfl⟩
    refine ⟨st (m+1) (m+1) (m+1),i - (m+1),by omega,?_,m+1,by rw [eF],by omega,rfl,rfl⟩
    rw [eF]
    simp only
    rw [w8 m (by omega)]
  ·obtain rfl:m=i:=by omega
   have dl:decide ((m:Int)<(m:Int))=false:=by rw [decide_eq_false_iff_not];omega
   rw [eF]
   simp only [dl,cond_false]
   have q1:cnt F9 m=x.sg:=by rw [NT,hx];exact Bg.sg.symm
   have q2:cnt Jn m=(dK d x.l).2:=by
    rw [hx,Bg.sn,NJ]
    refine g9 fun i hi=>?_
    rw [QC i hi,hx]
    simp only [hL]
   have cc:(((cnt F9 m:Nat):Int) != (x.sg:Int) || ((cnt Jn m:Nat):Int) != ((dK d x.l).2:Int))=false:=by rw [q1,q2];simp
   simp only [cc,cond_false]
   have V6 : ∀c,c<A.n→K4.get c=A.get c:=fun c hc=>by rw [y4 c (by omega),x4 c (by omega)];exact Tz c hc
   refine ⟨_,_,_,_,R6 (V6 _ (by omega)),?_⟩
   refine (Jg d hd s m hn hr.len hr.Jx hr.fits hr.AM false (hq.gM (by omega) fun c hc=>by rw [V6 c (by omega)];exact ao c hc)).mono ?_
   rintro v B2 ⟨SU,S2,Ti,q4,rfl,CA,z1,z2,z3,z4⟩
   rw [← hL] at CA ⊢
   obtain ⟨OF,Gf⟩ : ∃OF,OF=eL false (eE d false s L m):=⟨_,rfl⟩
   rw [← Gf] at CA Ft ⊢
   refine ⟨S2,q4.map fun b=>(b,0),Ti.length,Ti.length,_,_,_,SU,rfl,rfl,(B2.alloc (.cells [.str [],.slice none 0 0] 26 { whole:=true })).set B2.n (.cells [.str S2,sl q4 Ti.length] 26 { whole:=true }),by simp [AH.write,AH.aa,ax,AV.one,sl],?_⟩
   by_cases QZ:SU=0
   ·subst QZ
    simp only [n0,b0,cond_false,cond_true]
    rw [hQ]
    have f1:(OF.sg:Int) == (x.sg:Int):=by rw [Ft.1];simp
    have f2:decide ((OF.en:Int)≥0)=true:=by rw [decide_eq_true_iff];omega
    have f3:decide ((OF.en:Int)≤(m:Int))=true:=by rw [decide_eq_true_iff];have:=Ft.2.1;omega
    rw [f1,f2,f3];rfl
   ·have e:(SU != 0)=true:=by rw [bne_iff_ne];exact QZ
    simp only [e,cond_true]
    rw [hQ]
    have h2:SU=2:=by
     rcases CA with ⟨h,_⟩ | ⟨_,h,_⟩
     ·rw [th] at h
      have:=Ft.2.2
      have:=hN.len
      omega
     ·unfold Gu at h
      cases hb:decide (256<(cq (bN ((dK d OF.l).1.map Prod.snd))).length) with
      | true=>rw [hb] at h;exact h
      | false=>rw [hb] at h;exact absurd h QZ
    rw [h2];rfl
end Go.Proofs.YtlkdhhkncoekgaaDoor
