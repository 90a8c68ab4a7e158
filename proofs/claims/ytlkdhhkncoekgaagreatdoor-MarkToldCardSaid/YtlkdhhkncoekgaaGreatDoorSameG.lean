/- Two texts: are they alike, by the reference's Same? -/
import Derived.Test.YtlkdhhkncoekgaaGreatDoorChkG
import Derived.Test.YtlkdhhkncoekgaaGreatDoorKeepP
import Derived.Test.YtlkdhhkncoekgaaGreatDoorToldVc
namespace Go.Proofs.YtlkdhhkncoekgaaGreatDoor
open Go.Am Go
theorem ug {K:AH} {b n i:Nat} {F:Nat→aj} {e:TypeId} {fl:Fl} (h:K.get b=some (.cells (flat aj.cells ((List.range n).map F)) e fl)) (hi:i<n):K.read b (0+((i:Nat):Int).toNat*5) 5=some (F i).cells:=by
 have hl:((List.range n).map F).length=n:=by simp
 have:=cH aj.ay h (i:=i) (by omega)
 rw [Int.toNat_natCast,this]
 simp only [List.getElem_map,List.getElem_range]
theorem EY (a b:aj):(a.b == b.b && (a.i == b.i && (a.u == b.u && (a.k == b.k && (a.c == b.c && true)))))=dF a b:=by unfold dF;simp [Bool.and_assoc]
set_option maxRecDepth 100000 in
theorem HT (s t:List UInt8) (n m:Nat) (hn:aE s n) (hm:aE t m) {so ro:List av} (hs:qX s n so) (ht:qX t m ro) {H:AH} {q r:Option Nat} {cp cq:Nat} (hq:fE H q cp so) (hr:fE H r cq ro) :
  aD Tryz.prog 16 [.agg [.str s,.slice (q.map fun b=>(b,0)) so.length cp],.agg [.str t,.slice (r.map fun b=>(b,0)) ro.length cq]] H fun v H' =>
   (∃w:Bool,v=.bool w∧(w=true↔(s=t∧∀i:Nat,i<n→bw so (i:Int)=bw ro (i:Int))))∧H.n≤H'.n∧∀c,c<H.n→H'.get c=H.get c:=by
 obtain ⟨Q,hQ⟩ : ∃Q:AV→AH→Prop,Q=fun v H'=>(∃w:Bool,v=.bool w∧(w=true↔(s=t∧∀i:Nat,i<n→bw so (i:Int)=bw ro (i:Int))))∧H.n≤H'.n∧∀c,c<H.n→H'.get c=H.get c:=⟨_,rfl⟩
 rw [← hQ]
 have C4:n≤s.length:=by have:=dr hn.2;have:=hn.1;omega
 have PF:m≤t.length:=by have:=dr hm.2;have:=hm.1;omega
 have GK:=hs.len
 have Rb:=ht.len
 refine .inl ⟨aB (by kernel_rfl),bP (aS:=_) (c9:=_) aq (Eq.mpr (Fm (real Tryz.prog) (Iter Tryz.prog) s t (q.map fun b=>(b,0)) (r.map fun b=>(b,0)) so.length cp ro.length cq H Q) ?_)⟩
 simp only [bu,aU,aQ,aP,aF,aK,AH.az]
 obtain ⟨A,hA⟩ : ∃A,A=(H.alloc (.cells [.str s,.slice (q.map fun b=>(b,0)) so.length cp] 24 { whole:=true })).alloc (.cells [.str t,.slice (r.map fun b=>(b,0)) ro.length cq] 24 { whole:=true }):=⟨_,rfl⟩
 simp only [← hA]
 have an:A.n=H.n+2:=by rw [hA];simp only [AH.az]
 have a0:A.get H.n=some (.cells [.str s,.slice (q.map fun b=>(b,0)) so.length cp] 24 { whole:=true }):=by rw [hA,AH.aa,if_neg (by simp only [AH.az];omega),AH.aa,if_pos rfl]
 have a1:A.get (H.n+1)=some (.cells [.str t,.slice (r.map fun b=>(b,0)) ro.length cq] 24 { whole:=true }):=by rw [hA,AH.aa,if_pos (by simp)]
 have ao : ∀c,c<H.n→A.get c=H.get c:=fun c hc=>by rw [hA,AH.aa,if_neg (by simp only [AH.az];omega),AH.aa,if_neg (by omega)]
 obtain ⟨G,hG⟩ : ∃G:AH→Prop,G=fun K=>H.n+2≤K.n∧∀c,c<H.n+2→K.get c=A.get c:=⟨_,rfl⟩
 have gA:G A:=by rw [hG];exact ⟨by omega,fun _ _=>rfl⟩
 have pQ : ∀ {K K2:AH},G K→K.n≤K2.n→(∀c,c<K.n→K2.get c=K.get c)→G K2:=by
  intro K K2 h h1 h2
  rw [hG] at h ⊢
  exact ⟨by omega,fun c hc=>by rw [h2 c (by omega)];exact h.2 c hc⟩
 have WH : ∀ {K},G K→K.read H.n 0 2=some [.str s,.slice (q.map fun b=>(b,0)) so.length cp]:=fun {K} h=>by rw [hG] at h;unfold AH.read;rw [h.2 _ (by omega),a0];rfl
 have WG : ∀ {K},G K→K.read (H.n+1) 0 2=some [.str t,.slice (r.map fun b=>(b,0)) ro.length cq]:=fun {K} h=>by rw [hG] at h;unfold AH.read;rw [h.2 _ (by omega),a1];rfl
 have Y4 : ∀ {K},G K→K.ak H.n 0=some (.str s):=fun {K} h=>by rw [hG] at h;unfold AH.ak;rw [h.2 _ (by omega),a0];rfl
 have Y3 : ∀ {K},G K→K.ak (H.n+1) 0=some (.str t):=fun {K} h=>by rw [hG] at h;unfold AH.ak;rw [h.2 _ (by omega),a1];rfl
 have old : ∀ {K},G K→∀c,c<H.n→K.get c=H.get c:=fun {K} h c hc=>by rw [hG] at h;rw [h.2 c (by omega)];exact ao c hc
 have qV : ∀ {K},G K→H.n+2≤K.n:=fun {K} h=>by rw [hG] at h;exact h.1
 have n0:((0:Int) != 0)=false:=by decide
 have c0:(((0:Int) != 0) == false)=true:=by decide
 refine ⟨(by trivial),(by trivial),fun y K=>y=(H.n,H.n+1,!(s == t))∧G K,⟨_,_,_,_,WH gA,?_⟩,?_⟩
 ·refine (ym s n hn (hq.eA (by omega) ao)).mono ?_
  rintro v B ⟨rfl,b1,b2⟩
  have gB:=pQ gA b1 b2
  refine ⟨_,rfl,_,_,_,_,WG gB,?_⟩
  rw [qT hs,c0]
  simp only [cond_true]
  refine (ym t m hm (hr.eA (by have:=qV gB;omega) (old gB))).mono ?_
  rintro v C ⟨rfl,c1,c2⟩
  have gC:=pQ gB c1 c2
  refine ⟨_,rfl,s,Y4 gC,t,Y3 gC,?_⟩
  rw [qT ht,n0,Bool.false_or]
  exact ⟨(H.n,H.n+1,!(s == t)),0,trivial,rfl,rfl,gC⟩
 ·rintro _ K ⟨rfl,gK⟩
  simp only
  by_cases fU:s=t
  ·subst fU
   have e:(!(s == s))=false:=by simp
   rw [e]
   simp only [cond_false]
   have F1:m=n:=hm.uniq hn
   subst F1
   have IW:so.length≤1000000:=by have:=hs.Dh;omega
   have BT:ro.length≤1000000:=by have:=ht.Dh;omega
   refine ⟨_,_,_,_,WH gK,?_⟩
   refine (CC s m hn GK IW (fun x hx=>ze (hs.fits x hx)) (hq.eA (by have:=qV gK;omega) (old gK))).mono ?_
   rintro v B ⟨qa,rfl,b1,b2,b3,b4⟩
   have gB:=pQ gK b3 b4
   refine ⟨_,_,_,rfl,_,_,_,_,WG gB,?_⟩
   refine (CC s m hn GK BT (fun x hx=>ze (ht.fits x hx)) (hr.eA (by have:=qV gB;omega) (old gB))).mono ?_
   rintro v C ⟨qb,rfl,c1,c2,c3,c4⟩
   have gC:=pQ gB c3 c4
   refine ⟨_,_,_,rfl,fun y K' k=>∃i:Nat,y=((qa.map (fun b=>(b,0)),m),(qb.map (fun b=>(b,0)),m),(i:Int))∧i≤m∧(∀j:Nat,j<i→bw so (j:Int)=bw ro (j:Int))∧C=K'∧k=m - i,
    ⟨((qa.map (fun b=>(b,0)),m),(qb.map (fun b=>(b,0)),m),0),m,rfl,0,rfl,Nat.zero_le _,(fun j h=>absurd h (Nat.not_lt_zero j)),rfl,rfl⟩,?_⟩
   rintro _ _ _ ⟨i,rfl,hi,wT,rfl,rfl⟩
   simp only
   by_cases fO:i<m
   ·have d:decide ((i:Int)<(m:Int))=true:=by rw [decide_eq_true_iff];omega
    simp only [d,cond_true]
    obtain ⟨ba,hba⟩ : ∃ba,qa=some ba:=by
     cases qa with
     | none=>have:=b1.1;omega
     | some ba=>exact ⟨ba,rfl⟩
    obtain ⟨bb,VA⟩ : ∃bb,qb=some bb:=by
     cases qb with
     | none=>have:=c1.1;omega
     | some bb=>exact ⟨bb,rfl⟩
    subst hba;subst VA
    have ra:=ug (K:=C) (e:=63) (fl:={ fD:=true }) (F:=fun i:Nat=>bw so (i:Int)) ((c4 ba (b2 ba rfl).2).trans b1) fO
    have rb:=ug (K:=C) (e:=63) (fl:={ fD:=true }) (F:=fun i:Nat=>bw ro (i:Int)) c1 fO
    refine ⟨ba,0,⟨rfl,by omega,by omega⟩,_,_,_,_,_,ra,bb,0,⟨rfl,by omega,by omega⟩,_,_,_,_,_,rb,?_⟩
    rw [EY]
    cases hc:dF (bw so (i:Int)) (bw ro (i:Int)) with
    | true =>
     simp only [Bool.not_true,cond_false]
     refine ⟨((some (ba,0),m),(some (bb,0),m),((i+1:Nat):Int)),m - (i+1),by omega,by rw [wrap_i64 (by omega) (by omega)];rfl,i+1,rfl,by omega,fun j hj=>?_,(by trivial),rfl⟩
     rcases Nat.lt_or_ge j i with g | g
     ·exact wT j g
     ·have:j=i:=by omega
      subst this;exact cB.1 hc
    | false =>
     simp only [Bool.not_false,cond_true]
     rw [hQ]
     refine ⟨⟨false,rfl,⟨fun h=>(by cases h),fun h=>?_⟩⟩,by have:=qV gC;omega,old gC⟩
     have:=h.2 i fO
     rw [← cB,hc] at this
     cases this
   ·have d:decide ((i:Int)<(m:Int))=false:=by rw [decide_eq_false_iff_not];omega
    simp only [d,cond_false]
    rw [hQ]
    exact ⟨⟨true,rfl,⟨fun _=>⟨rfl,fun j hj=>wT j (by omega)⟩,fun _=>rfl⟩⟩,by have:=qV gC;omega,old gC⟩
  ·have e:(!(s == t))=true:=by simpa using fU
   rw [e]
   simp only [cond_true]
   rw [hQ]
   exact ⟨⟨false,rfl,⟨fun h=>(by cases h),fun h=>absurd h.1 fU⟩⟩,by have:=qV gK;omega,old gK⟩
end Go.Proofs.YtlkdhhkncoekgaaGreatDoor
