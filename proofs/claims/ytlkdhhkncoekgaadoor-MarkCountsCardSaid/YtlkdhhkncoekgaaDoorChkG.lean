/- Any text: what style.Check and the reference's Check tell of it. -/
import Derived.Test.YtlkdhhkncoekgaaDoorKeepA
import Derived.Test.YtlkdhhkncoekgaaDoorRefF
namespace Go.Proofs.YtlkdhhkncoekgaaDoor
open Go.Am Go
def qp (s:List UInt8) (n:Nat) (so:List ay):Int :=
 if 4096<s.length then 3 else if 256<so.length then 2 else if ((so.all fun x=>dO x n) && so.all fun x=>so.all fun y=>!bu x y)=true then 0 else 23
theorem AL (x y:ay):bu x y=bu y x:=by
 unfold bu
 rw [Bool.and_comm (decide (x.f<y.t)),Bool.and_assoc,Bool.and_assoc,Bool.and_comm (!bw x y),← Bool.and_assoc];rw [← Bool.and_assoc]
theorem AK (x:ay):bu x x=false:=by
 unfold bu
 have:bw x x=true:=by unfold bw;simp
 rw [this];simp
structure C0 (s:List UInt8) (n:Nat) (so:List ay):Prop where
 len:s.length≤4096
 Jx:so.length≤256
 fits : ∀x ∈ so,dO x n=true
 AM : ∀x ∈ so,∀y ∈ so,bu x y=false
theorem FP {s:List UInt8} {n:Nat} {so:List ay} (h:C0 s n so):qp s n so=0:=by
 unfold qp
 rw [if_neg (by have:=h.len;omega),if_neg (by have:=h.Jx;omega),if_pos]
 rw [Bool.and_eq_true]
 refine ⟨List.all_eq_true.2 h.fits,List.all_eq_true.2 fun x hx=>List.all_eq_true.2 fun y hy=>?_⟩
 rw [h.AM x hx y hy];rfl
theorem IW {s:List UInt8} {n:Nat} {so:List ay} (h:qp s n so=0):C0 s n so:=by
 unfold qp at h
 by_cases h1:4096<s.length
 ·rw [if_pos h1] at h;cases h
 ·rw [if_neg h1] at h
  by_cases h2:256<so.length
  ·rw [if_pos h2] at h;cases h
  ·rw [if_neg h2] at h
   by_cases h3:((so.all fun x=>dO x n) && so.all fun x=>so.all fun y=>!bu x y)=true
   ·rw [Bool.and_eq_true] at h3
    refine ⟨by omega,by omega,List.all_eq_true.1 h3.1,fun x hx y hy=>?_⟩
    have:=List.all_eq_true.1 (List.all_eq_true.1 h3.2 x hx) y hy
    simpa using this
   ·rw [if_neg h3] at h;cases h
theorem wG {s:List UInt8} {n:Nat} {so:List ay} (h1:s.length≤4096) (h2:so.length≤256) (h:(∃x ∈ so,dO x n=false)∨∃x ∈ so,∃y ∈ so,bu x y=true):qp s n so=23:=by
 unfold qp
 rw [if_neg (by omega),if_neg (by omega),if_neg]
 rw [Bool.and_eq_true]
 rintro ⟨g1,g2⟩
 rcases h with ⟨x,hx,e⟩ | ⟨x,hx,y,hy,e⟩
 ·have:=List.all_eq_true.1 g1 x hx
  rw [e] at this;cases this
 ·have:=List.all_eq_true.1 (List.all_eq_true.1 g2 x hx) y hy
  rw [e] at this;cases this
theorem FH {so:List ay} (h : ∀i (hi:i<so.length) j (hj:j<i),bu so[i] (so[j]'(by omega))=false) : ∀x ∈ so,∀y ∈ so,bu x y=false:=by
 intro x hx y hy
 obtain ⟨i,hi,rfl⟩:=List.getElem_of_mem hx
 obtain ⟨j,hj,rfl⟩:=List.getElem_of_mem hy
 rcases Nat.lt_trichotomy i j with g | g | g
 ·rw [AL];exact h j hj i g
 ·subst g;exact AK _
 ·exact h i hi j g
set_option maxRecDepth 100000 in
theorem Ka (s:List UInt8) (n:Nat) (hn:aD s n) {so:List ay} {H:AH} {q:Option Nat} {cp:Nat} (hq:iG H q cp so) :
  az Tryd.prog 31 [.agg [.str s,.slice (q.map fun b=>(b,0)) so.length cp]] H fun v H'=>v=.int .i64 (qp s n so)∧H.n≤H'.n∧∀c,c<H.n→H'.get c=H.get c:=by
 refine .inl ⟨aB (by kernel_rfl),ck (aT:=_) (dY:=_) au (Eq.mpr (EO (real Tryd.prog) (Iter Tryd.prog) s (q.map fun b=>(b,0)) so.length cp H _) ?_)⟩
 simp only [bL,bq,aY,bh,aJ,aL]
 obtain ⟨A,hA⟩ : ∃A,A=H.alloc (.cells [.str s,.slice (q.map fun b=>(b,0)) so.length cp] 26 { whole:=true }):=⟨_,rfl⟩
 rw [← hA]
 obtain ⟨G,hG⟩ : ∃G:AH→Prop,G=fun K=>K.get H.n=some (.cells [.str s,.slice (q.map fun b=>(b,0)) so.length cp] 26 { whole:=true })∧H.n<K.n∧∀c,c<H.n→K.get c=H.get c:=⟨_,rfl⟩
 have gA:G A:=by
  rw [hG,hA];exact ⟨by rw [AH.aa,if_pos rfl],by simp,fun c hc=>by rw [AH.aa,if_neg (by omega)]⟩
 have r0 : ∀ {K},G K→K.ak H.n 0=some (.str s):=fun {K} h=>by rw [hG] at h;unfold AH.ak;rw [h.1];rfl
 have r1 : ∀ {K},G K→K.ak H.n 1=some (.slice (q.map fun b=>(b,0)) so.length cp):=fun {K} h=>by rw [hG] at h;unfold AH.ak;rw [h.1];rfl
 have old : ∀ {K},G K→∀c,c<H.n→K.get c=H.get c:=fun {K} h=>by rw [hG] at h;exact h.2.2
 have wJ : ∀ {K},G K→H.n≤K.n:=fun {K} h=>by rw [hG] at h;omega
 refine ⟨(by trivial),s,r0 gA,?_⟩
 by_cases hs:4096<s.length
 ·have d1:decide ((s.length:Int) > 4096)=true:=by rw [decide_eq_true_iff];omega
  simp only [d1,cond_true]
  exact ⟨by unfold qp;rw [if_pos hs],wJ gA,old gA⟩
 have d1:decide ((s.length:Int) > 4096)=false:=by rw [decide_eq_false_iff_not];omega
 simp only [d1,cond_false]
 refine ⟨_,_,_,r1 gA,?_⟩
 by_cases hl:256<so.length
 ·have d2:decide ((so.length:Int) > 256)=true:=by rw [decide_eq_true_iff];omega
  simp only [d2,cond_true]
  exact ⟨by unfold qp;rw [if_neg hs,if_pos hl],wJ gA,old gA⟩
 have d2:decide ((so.length:Int) > 256)=false:=by rw [decide_eq_false_iff_not];omega
 have w6 : ∀i:Nat,i<so.length→IntKind.i64.wrap ((i:Int)+1)=((i+1:Nat):Int):=fun i hi=>by rw [wrap_i64 (by omega) (by omega)];omega
 simp only [d2,cond_false]
 refine ⟨s,r0 gA,(zQ s n hn (by omega) A).mono ?_⟩
 rintro v B ⟨rfl,bn,bo⟩
 have gB:G B:=by
  have uQ:=gA
  rw [hG] at uQ ⊢
  exact ⟨by rw [bo _ uQ.2.1];exact uQ.1,by omega,fun c hc=>by rw [bo c (by omega)];exact uQ.2.2 c hc⟩
 refine ⟨n,rfl,fun y K k=>∃i:Nat,y=(H.n,(n:Int),(i:Int))∧i≤so.length∧(∀j (hj:j<so.length),j<i→dO so[j] n=true)∧G K∧k=so.length - i,⟨(H.n,(n:Int),0),so.length,rfl,0,rfl,Nat.zero_le _,(fun j _ h=>absurd h (Nat.not_lt_zero j)),gB,rfl⟩,?_⟩
 rintro _ K _ ⟨i,rfl,hi,rN,hK,rfl⟩
 simp only
 refine ⟨_,_,_,r1 hK,?_⟩
 by_cases iX:i<so.length
 ·have d:decide ((i:Int)<(so.length:Int))=true:=by rw [decide_eq_true_iff];omega
  simp only [d,cond_true]
  obtain ⟨b,rfl,kR⟩:=hq.span (old hK) iX
  refine ⟨_,_,_,r1 hK,b,0,⟨rfl,by omega,by omega⟩,_,_,_,_,kR,?_⟩
  refine (BY so[i] n).dS ⟨_,rfl,?_⟩
  cases hf:dO so[i] n with
  | false =>
   simp only [Bool.not_false,cond_true]
   exact ⟨by rw [wG (by omega) (by omega) (.inl ⟨_,List.getElem_mem iX,hf⟩)],wJ hK,old hK⟩
  | true =>
   simp only [Bool.not_true,cond_false]
   refine ⟨(H.n,(n:Int),((i+1:Nat):Int)),so.length - (i+1),by omega,by rw [w6 i iX],i+1,rfl,by omega,fun j hj h=>?_,hK,rfl⟩
   rcases Nat.lt_or_ge j i with g | g
   ·exact rN j hj g
   ·have:j=i:=by omega
    subst this;exact hf
 ·have d:decide ((i:Int)<(so.length:Int))=false:=by rw [decide_eq_false_iff_not];omega
  simp only [d,cond_false]
  have Zi : ∀x ∈ so,dO x n=true:=fun x hx=>by
   obtain ⟨j,hj,rfl⟩:=List.getElem_of_mem hx
   exact rN j hj (by omega)
  refine ⟨fun y K k=>∃i:Nat,y=(H.n,(i:Int))∧i≤so.length∧(∀a (ha:a<so.length),a<i→∀b (hb:b<a),bu so[a] (so[b]'(by omega))=false)∧G K∧k=so.length - i,⟨(H.n,0),so.length,rfl,0,rfl,Nat.zero_le _,(fun a _ h=>absurd h (Nat.not_lt_zero a)),hK,rfl⟩,?_⟩
  rintro _ K _ ⟨i,rfl,hi,W5,hK,rfl⟩
  simp only
  refine ⟨_,_,_,r1 hK,?_⟩
  by_cases iX:i<so.length
  ·have d:decide ((i:Int)<(so.length:Int))=true:=by rw [decide_eq_true_iff];omega
   simp only [d,cond_true]
   refine ⟨fun y K k=>∃j:Nat,y=(H.n,(i:Int),(j:Int))∧j≤i∧(∀b (hb:b<i),b<j→bu so[i] (so[b]'(by omega))=false)∧G K∧k=i - j,⟨(H.n,(i:Int),0),i,rfl,0,rfl,Nat.zero_le _,(fun b _ h=>absurd h (Nat.not_lt_zero b)),hK,rfl⟩,?_⟩
   rintro _ K _ ⟨j,rfl,hj,W8,hK,rfl⟩
   simp only
   by_cases yT:j<i
   ·have d:decide ((j:Int)<(i:Int))=true:=by rw [decide_eq_true_iff];omega
    simp only [d,cond_true]
    obtain ⟨b,rfl,kR⟩:=hq.span (old hK) iX
    obtain ⟨b',e,Ig⟩:=hq.span (old hK) (show j<so.length by omega)
    cases e
    refine ⟨_,_,_,r1 hK,b,0,⟨rfl,by omega,by omega⟩,_,_,_,_,kR,_,_,_,r1 hK,b,0,⟨rfl,by omega,by omega⟩,_,_,_,_,Ig,?_⟩
    refine (zP so[i] so[j]).dS ⟨_,rfl,?_⟩
    cases hc:bu so[i] so[j] with
    | true =>
     simp only [cond_true]
     exact ⟨by rw [wG (by omega) (by omega) (.inr ⟨_,List.getElem_mem iX,_,List.getElem_mem _,hc⟩)],wJ hK,old hK⟩
    | false =>
     simp only [cond_false]
     refine ⟨(H.n,(i:Int),((j+1:Nat):Int)),i - (j+1),by omega,by rw [w6 j (by omega)],j+1,rfl,by omega,fun b hb h=>?_,hK,rfl⟩
     rcases Nat.lt_or_ge b j with g | g
     ·exact W8 b hb g
     ·have:b=j:=by omega
      subst this;exact hc
   ·have d:decide ((j:Int)<(i:Int))=false:=by rw [decide_eq_false_iff_not];omega
    simp only [d,cond_false]
    refine ⟨(H.n,((i+1:Nat):Int)),so.length - (i+1),by omega,by rw [w6 i iX],i+1,rfl,by omega,fun a ha h b hb=>?_,hK,rfl⟩
    rcases Nat.lt_or_ge a i with g | g
    ·exact W5 a ha g b hb
    ·have:a=i:=by omega
     subst this;exact W8 b hb (by omega)
  ·have d:decide ((i:Int)<(so.length:Int))=false:=by rw [decide_eq_false_iff_not];omega
   simp only [d,cond_false]
   refine ⟨?_,wJ hK,old hK⟩
   rw [FP ⟨by omega,by omega,Zi,FH fun a ha b hb=>W5 a ha (by omega) b hb⟩]
theorem J7 (s:List UInt8) (n:Nat) (hn:aD s n) {so:List ay} {H:AH} {q:Option Nat} {cp:Nat} (hq:iG H q cp so) :
  az Tryd.prog 14 [.agg [.str s,.slice (q.map fun b=>(b,0)) so.length cp]] H fun v H'=>v=.bool (qp s n so == 0)∧H.n≤H'.n∧∀c,c<H.n→H'.get c=H.get c:=by
 refine .inl ⟨aB (by kernel_rfl),ew (aT:=[]) au ?_⟩
 rw [EK]
 simp only [bL,bq,bh,aJ]
 obtain ⟨A,hA⟩ : ∃A,A=H.alloc (.cells [.str s,.slice (q.map fun b=>(b,0)) so.length cp] 26 { whole:=true }):=⟨_,rfl⟩
 rw [← hA]
 have ag:A.get H.n=some (.cells [.str s,.slice (q.map fun b=>(b,0)) so.length cp] 26 { whole:=true }):=by rw [hA,AH.aa,if_pos rfl]
 have ao : ∀c,c<H.n→A.get c=H.get c:=fun c hc=>by rw [hA,AH.aa,if_neg (by omega)]
 have an:A.n=H.n+1:=by rw [hA];rfl
 refine ⟨(by trivial),s,q.map fun b=>(b,0),so.length,cp,by unfold AH.read;rw [ag];rfl,?_⟩
 refine (Ka s n hn (hq.gM (by omega) ao)).mono ?_
 rintro v B ⟨rfl,b1,b2⟩
 exact ⟨_,rfl,rfl,by omega,fun c hc=>by rw [b2 c (by omega)];exact ao c hc⟩
end Go.Proofs.YtlkdhhkncoekgaaDoor
