/- style.made, style.text, style.Make, mark.laid: a text's spans are those of how its signs look, in normal form. -/
import Derived.Test.YtlkdhhkncoekgaaDoorScan
import Derived.Test.YtlkdhhkncoekgaaDoorMadeVc
/- What a look has of a kind; the cells of the cuts; what the making of spans keeps. -/
section
namespace Go.Proofs.YtlkdhhkncoekgaaDoor
open Go.Am Go
theorem sC (a:aj) (n:Int):Pure Tryd.prog 110 [.agg a.cells,.int .i64 n] (.int .i64 (a.get n)):=by
 obtain ⟨b,i,u,k,c⟩:=a
 refine Pure.fU au [] (by kernel_rfl) rfl (by simp [AV.bY]) ?_
 show gP _ _ _ _ [.agg [.bool b,.bool i,.bool u,.bool k,.int .i64 c],.int .i64 n] _ _
 rw [GF]
 by_cases h1:n=1
 ·subst h1;cases b <;> simp [AH.ak,AH.aa,aj.get,jC]
 by_cases h2:n=2
 ·subst h2;cases i <;> simp [AH.ak,AH.aa,aj.get,jC]
 by_cases h3:n=3
 ·subst h3;cases u <;> simp [AH.ak,AH.aa,aj.get,jC]
 by_cases h4:n=4
 ·subst h4;cases k <;> simp [AH.ak,AH.aa,aj.get,jC]
 by_cases h5:n=5 <;> simp [AH.ak,AH.aa,aj.get,h1,h2,h3,h4,h5]
def eY (cut:Nat→Bool) (n:Nat):List AV:=(List.range (n+1)).map fun j=>.bool (cut j)
theorem gp (cut:Nat→Bool) (n:Nat):(eY cut n).length=n+1:=by simp [eY]
theorem hU (cut:Nat→Bool) (n t:Nat):(eY cut n)[t]? = if t≤n then some (.bool (cut t)) else none:=by
 unfold eY
 rw [List.getElem?_map]
 by_cases h:t≤n
 ·rw [if_pos h,List.getElem?_eq_getElem (by rw [List.length_range];omega),List.getElem_range];rfl
 ·rw [if_neg h,List.getElem?_eq_none (by rw [List.length_range];omega)];rfl
theorem AU : ∀n,cR [.bool false] (n+1)=eY (fun _=>false) n:=by
 intro n
 have e : ∀m,cR [.bool false] m=List.replicate m (.bool false):=by
  intro m
  induction m with
  | zero=>rfl
  | succ m ih=>rw [List.replicate_succ,← ih];rfl
 rw [e]
 apply List.ext_getElem?
 intro i
 rw [hU,List.getElem?_replicate]
 by_cases h:i≤n
 ·rw [if_pos h,if_pos (by omega)]
 ·rw [if_neg h,if_neg (by omega)]
theorem Bo {l:List AV} {t:Nat} {v:AV} (h:t<l.length):ax l t [v]=l.set t v:=by
 rw [List.set_eq_take_append_cons_drop,if_pos h];rfl
theorem uB {cut:Nat→Bool} {n t:Nat} (h:t≤n):ax (eY cut n) t [.bool true]=eY (fun j=>cut j || j == t) n:=by
 rw [Bo (by rw [gp];omega)]
 apply List.ext_getElem?
 intro i
 rw [List.getElem?_set,hU,hU,gp]
 by_cases e:t=i
 ·subst e;rw [if_pos rfl,if_pos (by omega),if_pos h];simp
 ·rw [if_neg e]
  have:(i == t)=false:=by rw [beq_eq_false_iff_ne];omega
  simp only [this,Bool.or_false]
theorem pG {c d:Nat→Bool} {n:Nat} (h : ∀j,j≤n→c j=d j):eY c n=eY d n:=by
 apply List.ext_getElem?
 intro i
 rw [hU,hU]
 by_cases e:i≤n
 ·rw [if_pos e,if_pos e,h i e]
 ·rw [if_neg e,if_neg e]
def sy (H:AH) (q:Option Nat) (L:List aj):Prop :=
 match q with
 | none=>L=[]
 | some b=>b<H.n∧∃fl,H.get b=some (.cells (flat aj.cells L) 53 fl)
def D6 (H:AH) (sp:List ay) (v:AV) (H' : AH):Prop :=
 ∃q,v=sl q sp.length∧bI H' q sp.length (flat ay.cells sp) 41∧(∀c,q=some c→H.n≤c∧c<H'.n)∧H.n≤H'.n∧∀c,c<H.n→H'.get c=H.get c
def wM (sp so:List ay):Prop:=so.length=sp.length ∧
 ∀(H:AH) (q:Option Nat),bI H q sp.length (flat ay.cells sp) 41→(∀c,q=some c→c<H.n) →
  az Tryd.prog 99 [sl q sp.length,.func (.func 111) [] []] H fun v H' =>
   v=.tuple []∧bI H' q so.length (flat ay.cells so) 41∧H.n≤H'.n∧∀c,c<H.n→q ≠ some c→H'.get c=H.get c
structure MZ (H H' : AH) (n:Nat) (cut:Nat→Bool) (qo:Option Nat) (out:List ay):Prop where
 old : ∀c,c<H.n→H'.get c=H.get c
 cut:H'.get H.n=some (.cells (eY cut n) 4 {})
 lt:H.n<H'.n
 out:bI H' qo out.length (flat ay.cells out) 41
 bd : ∀c,qo=some c→H.n<c∧c<H'.n
theorem MZ.gM {H H1 H2:AH} {n:Nat} {cut:Nat→Bool} {qo:Option Nat} {out:List ay} (h:MZ H H1 n cut qo out) (hn:H1.n≤H2.n) (k : ∀c,c<H1.n→H2.get c=H1.get c):MZ H H2 n cut qo out:=by
 have:=h.lt
 exact ⟨fun c hc=>by rw [k c (by omega)];exact h.old c hc,by rw [k _ h.lt];exact h.cut,by omega,h.out.same fun b hb=>k b (h.bd b hb).2,fun c hc=>by have:=h.bd c hc;omega⟩
theorem CY {H:AH} {q:Option Nat} {l:List ay} {y:ay} {c:Nat} {fl:Fl} (hl:bI H q l.length (flat ay.cells l) 41) (hc:H.get c=some (.cells y.cells 41 fl)) (hm:l.length≤100000) :
  ∃H',bZ Tryd.prog H 24 24 (sl q l.length) (.slice (some (c,0)) 1 1)=some (sl (some H.n) (l ++ [y]).length,H')∧H'.n=H.n+1∧bI H' (some H.n) (l ++ [y]).length (flat ay.cells (l ++ [y])) 41∧∀c,c<H.n→q ≠ some c→H'.get c=H.get c :=
 eZ (mT:=32) (s:=4) (z:=.agg [.int .i64 0,.int .i64 0,.int .i64 0,.int .i64 0]) (by kernel_rfl) (by kernel_rfl) (by kernel_rfl) (by kernel_rfl) rfl (by decide) ay.aG ay.ef hl hc (by omega)
end Go.Proofs.YtlkdhhkncoekgaaDoor
end
/- style.made hands back the spans of a text in normal form, put in order. -/
section
namespace Go.Proofs.YtlkdhhkncoekgaaDoor
open Go.Am Go
theorem Rt {M:Int} (hM:1≤M) {a:aj} (h:0≤a.c∧a.c≤M) (k:Int):0≤a.get k∧a.get k≤M:=by
 have o : ∀b,0≤jC b∧jC b≤1:=fun b=>by cases b <;> decide
 have o1:=o a.b
 have o2:=o a.i
 have o3:=o a.u
 have o4:=o a.k
 unfold aj.get
 split
 ·omega
 ·split
  ·omega
  ·split
   ·omega
   ·split
    ·omega
    ·split
     ·exact h
     ·omega
theorem Ej {L:List aj} (hc : ∀a ∈ L,0≤a.c∧a.c≤16777216) {k:Int} {i:Nat} (h:i<L.length):0≤val L k i∧val L k i≤16777216:=by
 rw [pM h]
 exact Rt (by decide) (hc _ (List.getElem_mem h)) k
set_option maxRecDepth 100000 in
theorem Nu (L:List aj) (hL:L.length≤4096) (hc : ∀a ∈ L,0≤a.c∧a.c≤16777216) {so:List ay} (hs:wM (bN L) so) {H:AH} {q:Option Nat} (hq:sy H q L) :
  az Tryd.prog 93 [sl q L.length] H (D6 H so):=by
 refine .inl ⟨aB (by kernel_rfl),ck (aT:=_) (dY:=_) au (Eq.mpr (HJ (real Tryd.prog) (Iter Tryd.prog) (q.map fun b=>(b,0)) L.length H (D6 H so)) ?_)⟩
 simp only [bL,bq,aY,bh,aJ,cm,zM,aL,lA,fD]
 obtain ⟨n,hn⟩ : ∃n,n=L.length:=⟨_,rfl⟩
 rw [← hn] at hL ⊢
 have e1:IntKind.i64.wrap ((n:Int)+1)=((n+1:Nat):Int):=by rw [wrap_i64 (by omega) (by omega)];omega
 rw [e1]
 have rd : ∀ {H' : AH} {i:Nat},(∀c,c<H.n→H'.get c=H.get c)→(h:i<L.length)→∃b,q=some b∧H'.read b (0+i*5) 5=some L[i].cells:=by
  intro H' i ho hi
  cases q with
  | none=>rw [show L=[] from hq] at hi;cases hi
  | some b =>
   obtain ⟨h1,fl,h2⟩:=hq
   exact ⟨b,rfl,dr aj.aG (by rw [ho b h1];exact h2) hi⟩
 refine ⟨_,_,_,_,E6 H (n+1) (by omega),?_⟩
 have Sg:MZ H (H.alloc (.cells (cR [.bool false] (n+1)) 4 {})) n (fun _=>false) none []:=by
  refine ⟨fun c hc=>by rw [AH.aa,if_neg (by omega)],by rw [AH.aa,if_pos rfl,AU],by simp,⟨rfl,rfl⟩,fun c h=>by cases h⟩
 refine ⟨fun x H' j=>∃k qo,k≤5∧x=(((k+1:Nat):Int),(some (H.n,0),n+1),(qo.map (fun b=>(b,0)),(aA L k).1.length))∧MZ H H' n (aA L k).2 qo (aA L k).1∧j=5 - k,
  ⟨(1,(some (H.n,0),n+1),(none,0)),5,rfl,0,none,by omega,rfl,Sg,rfl⟩,?_⟩
 rintro _ H1 j1 ⟨k,qo,hk,rfl,hz,rfl⟩
 by_cases hk5:k<5
 ·have d1:decide (((k+1:Nat):Int)≤5)=true:=by rw [decide_eq_true_iff];omega
  simp only [d1,cond_true]
  obtain ⟨K,hK⟩ : ∃K,K=aA L k:=⟨_,rfl⟩
  obtain ⟨kd,Uw⟩ : ∃kd:Int,kd=((k+1:Nat):Int):=⟨_,rfl⟩
  have kd1:1≤kd∧kd≤5:=by omega
  rw [← hK] at hz
  rw [← hK,← Uw]
  obtain ⟨S0,SE⟩ : ∃S0,S0=bV (val L kd) K.2 n kd 0:=⟨_,rfl⟩
  have Xj:K.1.length≤5*n:=by
   have:=iz L k
   rw [← hK,← hn] at this
   have h5:k*n≤5*n:=Nat.mul_le_mul_right n (by omega)
   omega
  have U1:S0.length≤n:=by
   have:=lf (val:=val L kd) (cut:=K.2) (n:=n) (k:=kd) (n - 0) (i:=0) rfl
   rw [← SE] at this;omega
  refine ⟨fun x H' j=>∃(i:Nat) (done:List ay) (qo:Option Nat),x=((kd,(some (H.n,0),n+1),(qo.map (fun b=>(b,0)),(K.1 ++ done).length)),(K.1.length:Int),(i:Int))∧i≤n ∧
    done ++ bV (val L kd) K.2 n kd i=S0∧MZ H H' n K.2 qo (K.1 ++ done)∧j=n - i,
   ⟨((kd,(some (H.n,0),n+1),(qo.map (fun b=>(b,0)),K.1.length)),(K.1.length:Int),0),n,rfl,0,[],qo,by rw [List.append_nil];rfl,Nat.zero_le _,by rw [SE];rfl,by rw [List.append_nil];exact hz,rfl⟩,?_⟩
  rintro _ H2 j2 ⟨i,done,q2,rfl,hi,nR,nQ,rfl⟩
  have WZ:done.length≤n:=by
   have:=congrArg List.length nR
   rw [List.length_append] at this;omega
  by_cases iX:i<n
  ·have d2:decide ((i:Int)<(n:Int))=true:=by rw [decide_eq_true_iff];omega
   simp only [d2,cond_true]
   obtain ⟨b,rfl,kR⟩:=rd nQ.old (i:=i) (by omega)
   have hv:L[i].get kd=val L kd i:=(pM (by omega)).symm
   obtain ⟨vc1,vc2⟩:=Ej hc (k:=kd) (i:=i) (by omega)
   refine ⟨b,0,⟨rfl,by omega,by omega⟩,_,_,_,_,_,kR,?_⟩
   refine (sC L[i] kd).dS ⟨_,rfl,?_⟩
   rw [hv]
   have w1:IntKind.i64.wrap ((i:Int)+1)=((i+1:Nat):Int):=by rw [wrap_i64 (by omega) (by omega)];omega
   rw [w1]
   obtain ⟨e,he⟩ : ∃e,e=cT (alike (val L kd) K.2 i) n (i+1):=⟨_,rfl⟩
   have Zn:i<e∧e≤n:=by
    have:=fc (g:=alike (val L kd) K.2 i) (n:=n) (j:=i+1) (by omega)
    rw [← he] at this;omega
   refine ⟨fun x H'=>x=(((kd,(some (H.n,0),n+1),(q2.map (fun b=>(b,0)),(K.1 ++ done).length)),(K.1.length:Int),(i:Int)),val L kd i,(e:Int))∧H2=H',⟨?_,?_⟩⟩
   ·
    refine ⟨fun x H' j=>∃jj:Nat,x=(((kd,(some (H.n,0),n+1),(q2.map (fun b=>(b,0)),(K.1 ++ done).length)),(K.1.length:Int),(i:Int)),val L kd i,(jj:Int))∧H2=H'∧i<jj∧jj≤n∧cT (alike (val L kd) K.2 i) n jj=e∧j=n - jj,
     ⟨(((kd,(some (H.n,0),n+1),(q2.map (fun b=>(b,0)),(K.1 ++ done).length)),(K.1.length:Int),(i:Int)),val L kd i,((i+1:Nat):Int)),n - (i+1),rfl,i+1,rfl,rfl,by omega,by omega,he.symm,rfl⟩,?_⟩
    rintro _ _ j3 ⟨jj,rfl,rfl,c1,c2,c3,rfl⟩
    by_cases hj:jj<n
    ·have d3:decide ((jj:Int)<(n:Int))=true:=by rw [decide_eq_true_iff];omega
     simp only [d3,BEq.rfl,cond_true]
     obtain ⟨b',eu,Ig⟩:=rd nQ.old (i:=jj) (by omega)
     cases eu
     have YD:L[jj].get kd=val L kd jj:=(pM (by omega)).symm
     refine ⟨b,0,fun _=>⟨rfl,by omega,by omega⟩,L[jj].b,L[jj].i,L[jj].u,L[jj].k,L[jj].c,fun _=>Ig,?_⟩
     refine (sC L[jj] kd).dS ⟨_,rfl,H.n,0,fun _=>⟨rfl,by omega,by omega⟩,K.2 jj,fun _=>?_,?_⟩
     ·unfold AH.ak
      rw [nQ.cut]
      simp only
      rw [show 0+((jj:Int)).toNat*1=jj by omega,hU,if_pos (by omega)]
     ·rw [YD]
      have ea:(val L kd jj == val L kd i && !K.2 jj)=alike (val L kd) K.2 i jj:=rfl
      rw [ea]
      cases ha:alike (val L kd) K.2 i jj with
      | true =>
       refine ⟨(((kd,(some (H.n,0),n+1),(q2.map (fun b=>(b,0)),(K.1 ++ done).length)),(K.1.length:Int),(i:Int)),val L kd i,((jj+1:Nat):Int)),n - (jj+1),by omega,?_,jj+1,rfl,rfl,by omega,by omega,by rw [← c3,JM hj ha],rfl⟩
       rw [show IntKind.i64.wrap ((jj:Int)+1)=((jj+1:Nat):Int) by rw [wrap_i64 (by omega) (by omega)];omega]
      | false =>
       have:jj=e:=by rw [← c3,Ed hj ha]
       subst this
       exact ⟨_,0,trivial,rfl,rfl,rfl⟩
    ·have d3:decide ((jj:Int)<(n:Int))=false:=by rw [decide_eq_false_iff_not];omega
     have ff:(false == true)=false:=rfl
     simp only [d3,ff,cond_false]
     have:jj=e:=by rw [← c3,GG (by omega)]
     subst this
     refine ⟨0,0,(fun h=>absurd h (by decide)),false,false,false,false,0,(fun h=>absurd h (by decide)),?_⟩
     exact ⟨0,0,(fun h=>absurd h (by decide)),false,(fun h=>absurd h (by decide)),_,0,trivial,rfl,rfl,(by trivial)⟩
   ·rintro _ _ ⟨rfl,rfl⟩
    have iJ:=eV (val:=val L kd) (cut:=K.2) (n:=n) (k:=kd) iX
    rw [← he] at iJ
    refine ⟨fun x H'=>∃q3 wD,x=((kd,(some (H.n,0),n+1),(q3.map (fun b=>(b,0)),(K.1 ++ wD).length)),(K.1.length:Int),(e:Int))∧wD ++ bV (val L kd) K.2 n kd e=S0∧MZ H H' n K.2 q3 (K.1 ++ wD),⟨?_,?_⟩⟩
    ·by_cases Sm:val L kd i=0
     ·have d4:(val L kd i != 0)=false:=by rw [Sm];rfl
      simp only [d4,cond_false]
      refine ⟨((kd,(some (H.n,0),n+1),(q2.map (fun b=>(b,0)),(K.1 ++ done).length)),(K.1.length:Int),(e:Int)),0,trivial,rfl,q2,done,rfl,?_,nQ⟩
      rw [← nR,iJ]
      unfold iR
      rw [if_pos Sm];rfl
     ·have d4:(val L kd i != 0)=true:=by rw [bne_iff_ne];exact Sm
      simp only [d4,cond_true]
      obtain ⟨y,hy⟩ : ∃y:ay,y=⟨i,e,kd,if kd=5 then val L kd i - 1 else 0⟩:=⟨_,rfl⟩
      have NN:iR (val L kd) kd i e=[y]:=by unfold iR;rw [if_neg Sm,hy]
      refine ⟨rfl,(H2.alloc (.cells [.int .i64 0,.int .i64 0,.int .i64 0,.int .i64 0] 41 { whole:=true })).set H2.n (.cells [.int .i64 (i:Int),.int .i64 (e:Int),.int .i64 kd,.int .i64 0] 41 { whole:=true }),by simp [AH.write,AH.aa,ax,AV.one],?_⟩
      refine ⟨fun x H'=>x=(((kd,(some (H.n,0),n+1),(q2.map (fun b=>(b,0)),(K.1 ++ done).length)),(K.1.length:Int),(e:Int)),H2.n)∧H'.n=H2.n+1∧H'.get H2.n=some (.cells y.cells 41 { whole:=true })∧∀c,c<H2.n→H'.get c=H2.get c,⟨?_,?_⟩⟩
      ·by_cases Gk:kd=5
       ·have d5:(kd == (5:Int))=true:=by rw [beq_iff_eq];exact Gk
        simp only [d5,cond_true]
        have w2:IntKind.i64.wrap (val L kd i - 1)=val L kd i - 1:=wrap_i64 (by omega) (by omega)
        rw [w2]
        refine ⟨rfl,((H2.alloc (.cells [.int .i64 0,.int .i64 0,.int .i64 0,.int .i64 0] 41 { whole:=true })).set H2.n (.cells [.int .i64 (i:Int),.int .i64 (e:Int),.int .i64 kd,.int .i64 0] 41 { whole:=true })).set H2.n (.cells y.cells 41 { whole:=true }),?_,_,0,trivial,rfl,rfl,rfl,by rw [AH.af,if_pos rfl],fun c hc=>by rw [AH.af,if_neg (by omega),AH.af,if_neg (by omega),AH.aa,if_neg (by omega)]⟩
        rw [hy,if_pos Gk]
        unfold AH.write
        rw [AH.af,if_pos rfl]
        simp [ax,AV.one,ay.cells]
       ·have d5:(kd == (5:Int))=false:=by rw [beq_eq_false_iff_ne];exact Gk
        simp only [d5,cond_false]
        refine ⟨_,0,trivial,rfl,rfl,rfl,by rw [AH.af,if_pos rfl,hy,if_neg Gk];rfl,fun c hc=>by rw [AH.af,if_neg (by omega),AH.aa,if_neg (by omega)]⟩
      ·rintro _ H5 ⟨rfl,n5,g5,o5⟩
       have Jt:=nQ.gM (H2:=H5) (by omega) o5
       obtain ⟨H6,g1,g2,g3,g4⟩:=CY (H:=H5.alloc (.cells y.cells 41 { whole:=true })) (q:=q2) (l:=K.1 ++ done) (y:=y) (c:=H5.n) (fl:={ whole:=true })
        (Jt.out.same fun b hb=>by have:=Jt.bd b hb;rw [AH.aa,if_neg (by omega)]) (by rw [AH.aa,if_pos rfl]) (by rw [List.length_append];omega)
       have Ur:=Jt.lt
       have o6 : ∀c,c<H5.n→q2 ≠ some c→H6.get c=H5.get c:=fun c hc hq=>by rw [g4 c (by simp only [AH.aC];omega) hq,AH.aa,if_neg (by omega)]
       refine ⟨y.f,y.t,y.k,y.v,by simp [AH.read,g5,ay.cells],by decide,_,_,_,H6,g1,((kd,(some (H.n,0),n+1),(some (H5.n+1,0),(K.1 ++ (done ++ [y])).length)),(K.1.length:Int),(e:Int)),0,trivial,?_,some (H5.n+1),done ++ [y],rfl,?_,?_⟩
       ·rw [← List.append_assoc];rfl
       ·rw [← nR,iJ,NN,List.append_assoc]
       ·rw [← List.append_assoc]
        refine ⟨fun c hc=>?_,?_,by rw [g2];simp only [AH.aC];omega,g3,fun c hc=>?_⟩
        ·rw [o6 c (by omega) (fun e=>by have:=Jt.bd c e;omega)];exact Jt.old c hc
        ·rw [o6 _ Ur (fun e=>by have:=Jt.bd _ e;omega)];exact Jt.cut
        ·cases hc;rw [g2];simp only [AH.aC];omega
    ·rintro _ H6 ⟨q3,wD,rfl,T6,TM⟩
     exact ⟨((kd,(some (H.n,0),n+1),(q3.map (fun b=>(b,0)),(K.1 ++ wD).length)),(K.1.length:Int),(e:Int)),n - e,by omega,rfl,e,wD,q3,rfl,Zn.2,T6,TM,rfl⟩
  ·have d2:decide ((i:Int)<(n:Int))=false:=by rw [decide_eq_false_iff_not];omega
   simp only [d2,cond_false]
   obtain rfl:n=i:=by omega
   rw [fj (Nat.le_refl _),List.append_nil] at nR
   have KQ:aA L (k+1)=(K.1 ++ done,kL K.2 done):=by
    show ((aA L k).1 ++ bV (val L (k+1:Nat)) (aA L k).2 L.length (k+1:Nat) 0,kL (aA L k).2 (bV (val L (k+1:Nat)) (aA L k).2 L.length (k+1:Nat) 0))=_
    rw [← hK,← hn,← Uw,← SE,nR]
   have Zz : ∀x ∈ done,∃a b:Nat,x.f=a∧x.t=b∧a≤n∧b≤n:=by
    intro x hx
    rw [nR,SE] at hx
    obtain ⟨a,b,g1,g2,g3,g4,g5,_⟩:=jW (n - 0) rfl x hx
    exact ⟨a,b,g1,g2,by omega,g5⟩
   obtain ⟨sb,KC,kR⟩ : ∃sb,cJ Tryd.prog H2 24 (.slice (q2.map fun b=>(b,0)) (K.1 ++ done).length (K.1 ++ done).length) (some (.int .i64 (K.1.length:Int))) none none=some (.slice sb done.length done.length) ∧
     ∀ {H' : AH} {r:Nat},(∀b,q2=some b→H'.get b=H2.get b)→(h:r<done.length)→∃b o,sb=some (b,o)∧H'.read b (o+r*4) 4=some done[r].cells:=by
    have t1:Tryd.prog.underlying 24=some (.slice 41):=by kernel_rfl
    have t2:bX Tryd.prog 41=some 4:=by kernel_rfl
    have Cs:=nQ.out
    cases q2 with
    | none =>
     have h0:K.1 ++ done=[]:=List.length_eq_zero_iff.1 Cs.1
     obtain ⟨h1,h2⟩:=List.append_eq_nil_iff.1 h0
     refine ⟨none,?_,fun _ h=>by rw [h2] at h;cases h⟩
     rw [h1,h2]
     simp [cJ,t1,t2,fR]
    | some b =>
     have hb:H2.get b=some (.cells (flat ay.cells (K.1 ++ done)) 41 { fT:=true }):=Cs
     refine ⟨some (b,0+K.1.length*4),?_,fun {H' r} ho h=>⟨b,_,rfl,?_⟩⟩
     ·have eF:H2.steps Tryd.prog b 4=true:=by unfold AH.steps;rw [hb];simp [t2]
      simp only [cJ,t1,t2,fR,Option.map_some,Option.bind_some,eF,or_true,if_true]
      rw [if_pos (by omega)]
      simp only [Option.bind_some]
      rw [if_pos ⟨by rw [List.length_append];omega,Nat.le_refl _,Nat.le_refl _,fun h=>by cases h⟩]
      rw [List.length_append]
      simp
     ·have:=dr ay.aG (H:=H') (b:=b) (i:=K.1.length+r) (by rw [ho b rfl];exact hb) (by rw [List.length_append];omega)
      rw [show 0+K.1.length*4+r*4=0+(K.1.length+r)*4 by omega,this,List.getElem_append_right (by omega)]
      simp
   refine ⟨sb,done.length,done.length,KC,?_⟩
   refine ⟨fun x H' j=>∃r:Nat,x=((kd,(some (H.n,0),n+1),(q2.map (fun b=>(b,0)),(K.1 ++ done).length)),(sb,done.length,done.length),(done.length:Int),(r:Int))∧r≤done.length∧MZ H H' n (kL K.2 (done.take r)) q2 (K.1 ++ done) ∧
     (∀b,q2=some b→H'.get b=H2.get b)∧j=done.length - r,⟨((kd,(some (H.n,0),n+1),(q2.map (fun b=>(b,0)),(K.1 ++ done).length)),(sb,done.length,done.length),(done.length:Int),0),done.length,rfl,0,rfl,Nat.zero_le _,?_,fun b _=>rfl,rfl⟩,?_⟩
   ·refine ⟨nQ.old,?_,nQ.lt,nQ.out,nQ.bd⟩
    rw [nQ.cut,pG (c:=K.2)]
    intro j _
    simp [kL]
   rintro _ H3 j3 ⟨r,rfl,hr,DC,WB,rfl⟩
   by_cases OT:r<done.length
   ·have d6:decide ((r:Int)<(done.length:Int))=true:=by rw [decide_eq_true_iff];omega
    simp only [d6,cond_true]
    obtain ⟨b,o,rfl,Ud⟩:=kR WB OT
    obtain ⟨a,z,ha,iM,ME,TN⟩:=Zz _ (List.getElem_mem OT)
    have Us:=DC.lt
    obtain ⟨A1,uQ⟩ : ∃A1,A1=(H3.alloc (.cells [.int .i64 0,.int .i64 0,.int .i64 0,.int .i64 0] 41 { whole:=true })).set H3.n (.cells done[r].cells 41 { whole:=true }):=⟨_,rfl⟩
    have F2 : ∀c,c<H3.n→A1.get c=H3.get c:=fun c hc=>by rw [uQ,AH.af,if_neg (by omega),AH.aa,if_neg (by omega)]
    have MS:A1.get H3.n=some (.cells done[r].cells 41 { whole:=true }):=by rw [uQ,AH.af,if_pos rfl]
    have a1c:A1.get H.n=some (.cells (eY (kL K.2 (done.take r)) n) 4 {}):=by rw [F2 _ Us];exact DC.cut
    obtain ⟨A2,Bi⟩ : ∃A2,A2=A1.set H.n (.cells (eY (fun j=>kL K.2 (done.take r) j || j == a) n) 4 {}):=⟨_,rfl⟩
    have a2c:A2.get H.n=some (.cells (eY (fun j=>kL K.2 (done.take r) j || j == a) n) 4 {}):=by rw [Bi,AH.af,if_pos rfl]
    have Gz : ∀c,c ≠ H.n→A2.get c=A1.get c:=fun c hc=>by rw [Bi,AH.af,if_neg hc]
    refine ⟨b,o,⟨rfl,by omega,by omega⟩,_,_,_,_,Ud,rfl,A1,?_,done[r].f,?_,done[r].t,?_,H.n,0,⟨rfl,by omega,by omega⟩,trivial,A2,?_,⟨done[r].t,?_,rfl⟩,H.n,0,⟨rfl,by omega,by omega⟩,trivial,
     A2.set H.n (.cells (eY (fun j=>(kL K.2 (done.take r) j || j == a) || j == z) n) 4 {}),?_,((kd,(some (H.n,0),n+1),(q2.map (fun b=>(b,0)),(K.1 ++ done).length)),(some (b,o),done.length,done.length),(done.length:Int),((r+1:Nat):Int)),done.length - (r+1),by omega,?_,r+1,rfl,by omega,?_,fun c hc=>?_,rfl⟩
    ·rw [uQ];simp [AH.write,AH.aa,ax,AV.one,ay.cells]
    ·simp [AH.ak,MS,ay.cells]
    ·simp [AH.ak,MS,ay.cells]
    ·unfold AH.write
     rw [a1c,ha]
     simp only
     rw [if_pos ⟨trivial,Nat.zero_le _,by rw [gp];simp only [List.length_cons,List.length_nil];omega,by simp [AV.one]⟩,show 0+((a:Int)).toNat*1=a by omega,uB ME,Bi]
    ·unfold AH.ak;rw [Gz _ (by omega),MS];simp [ay.cells]
    ·unfold AH.write
     rw [a2c,iM]
     simp only
     rw [if_pos ⟨trivial,Nat.zero_le _,by rw [gp];simp only [List.length_cons,List.length_nil];omega,by simp [AV.one]⟩,show 0+((z:Int)).toNat*1=z by omega,uB TN]
    ·rw [wrap_i64 (by omega) (by omega)];rfl
    ·refine ⟨fun c hc=>?_,?_,?_,?_,?_⟩
     ·rw [AH.af,if_neg (by omega),Gz _ (by omega),F2 _ (by omega)];exact DC.old c hc
     ·rw [AH.af,if_pos rfl,pG]
      intro j _
      rw [List.take_succ_eq_append_getElem OT]
      unfold kL
      rw [List.any_append]
      simp only [List.any_cons,List.any_nil,Bool.or_false,ha,iM]
      have x1:((a:Int) == (j:Int))=(j == a):=by rw [Bool.eq_iff_iff,beq_iff_eq,beq_iff_eq];omega
      have x2:((z:Int) == (j:Int))=(j == z):=by rw [Bool.eq_iff_iff,beq_iff_eq,beq_iff_eq];omega
      rw [x1,x2]
      simp only [Bool.or_assoc]
     ·simp only [AH.aZ,Bi,uQ,AH.aC];omega
     ·refine DC.out.same fun c hc=>?_
      have:=DC.bd c hc
      rw [AH.af,if_neg (by omega),Gz _ (by omega),F2 _ (by omega)]
     ·intro c hc
      have:=DC.bd c hc
      simp only [AH.aZ,Bi,uQ,AH.aC];omega
    ·have:=DC.bd c hc
     rw [AH.af,if_neg (by omega),Gz _ (by omega),F2 _ (by omega)];exact WB c hc
   ·have d6:decide ((r:Int)<(done.length:Int))=false:=by rw [decide_eq_false_iff_not];omega
    simp only [d6,cond_false]
    obtain rfl:r=done.length:=by omega
    rw [List.take_length] at DC
    refine ⟨((((k+1+1:Nat)):Int),(some (H.n,0),n+1),(q2.map (fun b=>(b,0)),(K.1 ++ done).length)),5 - (k+1),by omega,?_,k+1,q2,by omega,?_,?_,rfl⟩
    ·rw [wrap_i64 (by omega) (by omega),Uw];rfl
    ·rw [KQ]
    ·rw [KQ];exact DC
 ·have d1:decide (((k+1:Nat):Int)≤5)=false:=by rw [decide_eq_false_iff_not];omega
  simp only [d1,cond_false]
  obtain rfl:k=5:=by omega
  have cv:=hz.lt
  refine (hs.2 H1 qo hz.out (fun c hc=>(hz.bd c hc).2)).mono ?_
  rintro v H2 ⟨rfl,g1,g2,g3⟩
  refine ⟨qo,?_,g1,fun c hc=>by have:=hz.bd c hc;omega,by omega,fun c hc=>?_⟩
  ·unfold sl;rw [hs.1];rfl
  ·rw [g3 c (by omega) (fun e=>by have:=hz.bd c e;omega)];exact hz.old c hc
end Go.Proofs.YtlkdhhkncoekgaaDoor
end
/- A text of runs: its spans are those of how its signs look. -/
section
namespace Go.Proofs.YtlkdhhkncoekgaaDoor
open Go.Am Go
def mQ (H:AH) (e:Int) (s:List UInt8) (sp:List ay) (v:AV) (H' : AH):Prop :=
 ∃q,v=.tuple [.agg [.str s,sl q sp.length],.int .i64 e]∧bI H' q sp.length (flat ay.cells sp) 41∧(∀c,q=some c→H.n≤c∧c<H'.n)∧H.n≤H'.n∧∀c,c<H.n→H'.get c=H.get c
def Gu (so:List ay):Int:=bif decide (256<so.length) then 2 else 0
def BF (so:List ay) (s:List UInt8):List UInt8:=bif decide (256<so.length) then [] else s
def lg (so:List ay):List ay:=bif decide (256<so.length) then [] else so
theorem jK {so:List ay} (h:so.length≤256) (s:List UInt8):Gu so=0∧BF so s=s∧lg so=so:=by
 have:decide (256<so.length)=false:=by rw [decide_eq_false_iff_not];omega
 unfold Gu BF lg
 rw [this];exact ⟨rfl,rfl,rfl⟩
theorem ki {so:List ay} (h:256<so.length) (s:List UInt8):Gu so=2∧BF so s=[]∧lg so=[]:=by
 have:decide (256<so.length)=true:=by rw [decide_eq_true_iff];exact h
 unfold Gu BF lg
 rw [this];exact ⟨rfl,rfl,rfl⟩
theorem Nb (s:List UInt8) (L:List aj) (hL:L.length≤4096) (hc : ∀a ∈ L,0≤a.c∧a.c≤16777216) {so:List ay} (hs:wM (bN L) so) {H:AH} {q:Option Nat} (hq:sy H q L) :
  az Tryd.prog 79 [.str s,sl q L.length] H (mQ H (Gu so) (BF so s) (lg so)):=by
 refine .inl ⟨aB (by kernel_rfl),ew (aT:=[]) au ?_⟩
 show gP _ _ _ _ [.str s,.slice (q.map fun b=>(b,0)) L.length L.length] _ _
 rw [JO]
 simp only [bL,bq,bh,aJ,cm]
 have va:sy (H.alloc (.cells [.str [],.slice none 0 0] 26 { whole:=true })) q L:=by
  cases q with
  | none=>exact hq
  | some b=>obtain ⟨h1,fl,h2⟩:=hq;exact ⟨by simp only [AH.aC];omega,fl,by rw [AH.aa,if_neg (by omega)];exact h2⟩
 refine (Nu L hL hc hs va).mono ?_
 rintro v H1 ⟨q1,rfl,g1,g2,g3,g4⟩
 simp only [AH.aC] at g2 g3 g4
 have g0:H1.get H.n=some (.cells [.str [],.slice none 0 0] 26 { whole:=true }):=by rw [g4 _ (by omega),AH.aa,if_pos rfl]
 refine ⟨_,_,_,rfl,?_⟩
 rcases Nat.lt_or_ge 256 so.length with Od | Od
 ·have d:decide ((so.length:Int) > 256)=true:=by rw [decide_eq_true_iff];omega
  obtain ⟨m1,m2,m3⟩:=ki Od s
  rw [m1,m2,m3]
  simp only [d,cond_true]
  refine ⟨rfl,H1.set H.n (.cells [.str [],.slice none 0 0] 26 { whole:=true }),by simp [AH.write,g0,ax,AV.one],[],_,_,_,by simp [AH.read,AH.af],none,rfl,⟨rfl,rfl⟩,(fun c hc=>by cases hc),?_,fun c hc=>?_⟩
  ·simp only [AH.aZ];omega
  ·rw [AH.af,if_neg (by omega),g4 c (by omega),AH.aa,if_neg (by omega)]
 ·have d:decide ((so.length:Int) > 256)=false:=by rw [decide_eq_false_iff_not];omega
  obtain ⟨m1,m2,m3⟩:=jK Od s
  rw [m1,m2,m3]
  simp only [d,cond_false]
  refine ⟨rfl,H1.set H.n (.cells [.str s,.slice (q1.map fun b=>(b,0)) so.length so.length] 26 { whole:=true }),by simp [AH.write,g0,ax,AV.one],s,_,_,_,by simp [AH.read,AH.af],q1,rfl,?_,fun c hc=>?_,?_,fun c hc=>?_⟩
  ·exact g1.same fun b hb=>by have:=g2 b hb;rw [AH.af,if_neg (by omega)]
  ·have:=g2 c hc;simp only [AH.aZ];omega
  ·simp only [AH.aZ];omega
  ·rw [AH.af,if_neg (by omega),g4 c (by omega),AH.aa,if_neg (by omega)]
structure Rn where
 f:Nat
 t:Nat
 a:aj
def Rn.cells (r:Rn):List AV:=[.int .i64 (r.f:Int),.int .i64 (r.t:Int),.bool r.a.b,.bool r.a.i,.bool r.a.u,.bool r.a.k,.int .i64 r.a.c]
theorem Rn.aG (r:Rn):r.cells.length=7:=rfl
theorem Rn.ef (r:Rn):r.cells.all AV.one=true:=by simp [Rn.cells,AV.one]
def gj:Nat→List Rn→Nat→Prop
 | a,[],b=>a=b
 | a,r :: rs,b=>r.f=a∧a<r.t∧gj r.t rs b
def expand:List Rn→List aj
 | []=>[]
 | r :: rs=>List.replicate (r.t - r.f) r.a ++ expand rs
theorem eP : ∀ {rs ss:List Rn} {a b:Nat},gj a (rs ++ ss) b↔∃m,gj a rs m∧gj m ss b
 | [],ss,a,b=>by simp [gj]
 | r :: rs,ss,a,b=>by
  simp only [List.cons_append,gj,eP (rs:=rs)]
  constructor
  ·rintro ⟨h1,h2,m,h3,h4⟩;exact ⟨m,⟨h1,h2,h3⟩,h4⟩
  ·rintro ⟨m,⟨h1,h2,h3⟩,h4⟩;exact ⟨h1,h2,m,h3,h4⟩
theorem eM : ∀(rs ss:List Rn),expand (rs ++ ss)=expand rs ++ expand ss
 | [],ss=>rfl
 | r :: rs,ss=>by simp only [List.cons_append,expand,eM rs ss,List.append_assoc]
theorem jq : ∀ {rs:List Rn} {a b:Nat},gj a rs b→a+(expand rs).length=b
 | [],a,b,h=>by simpa [expand,gj] using h
 | r :: rs,a,b,⟨h1,h2,h3⟩=>by
  have:=jq h3
  simp only [expand,List.length_append,List.length_replicate];omega
theorem mL : ∀ {rs:List Rn} {a b:Nat},gj a rs b→a+rs.length≤b
 | [],a,b,h=>by simp only [gj] at h;simp;omega
 | r :: rs,a,b,⟨h1,h2,h3⟩=>by
  have:=mL h3
  simp only [List.length_cons];omega
theorem FK {rs:List Rn} {b i:Nat} (h:gj 0 rs b) (hi:i<rs.length):rs[i].f=(expand (rs.take i)).length∧rs[i].f<rs[i].t∧rs[i].t≤b∧expand (rs.take (i+1))=expand (rs.take i) ++ List.replicate (rs[i].t - rs[i].f) rs[i].a:=by
 have e:rs=rs.take i ++ rs[i] :: rs.drop (i+1):=by rw [← List.drop_eq_getElem_cons hi,List.take_append_drop]
 have h':=h
 rw [e] at h'
 obtain ⟨m,h1,h2,h3,h4⟩:=eP.1 h'
 have h5:=jq h1
 have h6:=mL h4
 refine ⟨by omega,by omega,by omega,?_⟩
 rw [List.take_succ_eq_append_getElem hi,eM]
 simp [expand]
def Jd (H:AH) (q:Option Nat) (rs:List Rn):Prop :=
 match q with
 | none=>rs=[]
 | some b=>b<H.n∧∃fl,H.get b=some (.cells (flat Rn.cells rs) 109 fl)
theorem ri {H:AH} {q:Option Nat} {l:List aj} {y:aj} {c:Nat} {fl:Fl} (hl:bI H q l.length (flat aj.cells l) 53) (hc:H.get c=some (.cells y.cells 53 fl)) (hm:l.length≤4096) :
  ∃H',bZ Tryd.prog H 50 50 (sl q l.length) (.slice (some (c,0)) 1 1)=some (sl (some H.n) (l ++ [y]).length,H')∧H'.n=H.n+1∧bI H' (some H.n) (l ++ [y]).length (flat aj.cells (l ++ [y])) 53∧∀c,c<H.n→q ≠ some c→H'.get c=H.get c :=
 eZ (mT:=16) (s:=5) (z:=.agg aH.cells) (by kernel_rfl) (by kernel_rfl) (by kernel_rfl) (by kernel_rfl) rfl (by decide) aj.aG aj.ef hl hc (by omega)
set_option maxRecDepth 100000 in
theorem OC (s:List UInt8) (n:Nat) (Qo:aD s n) (hl:s.length≤4096) (rs:List Rn) (hr:gj 0 rs n) (hc : ∀r ∈ rs,0≤r.a.c∧r.a.c≤16777216) {so:List ay} (hs:wM (bN (expand rs)) so) {H:AH} {q:Option Nat} (hq:Jd H q rs) :
  az Tryd.prog 55 [.str s,sl q rs.length] H (mQ H (Gu so) (BF so s) (lg so)):=by
 have hn:n≤4096:=by have:=dJ Qo.2;have:=Qo.1;omega
 have UJ:(expand rs).length=n:=by have:=jq hr;omega
 have OT:rs.length≤n:=by have:=mL hr;omega
 refine .inl ⟨aB (by kernel_rfl),ck (aT:=_) (dY:=_) au (Eq.mpr (LO (real Tryd.prog) (Iter Tryd.prog) s (q.map fun b=>(b,0)) rs.length H (mQ H (Gu so) (BF so s) (lg so))) ?_)⟩
 simp only [bL,bq,aY,bh,aJ,cm,aL,fD]
 have Mw : ¬ ((s.length:Int) > 4096):=by omega
 simp only [Mw,decide_false,cond_false]
 refine (oc s n Qo (by omega)).dS ⟨n,rfl,?_⟩
 obtain ⟨Z,hZ⟩ : ∃Z:AH→Prop,Z=fun H'=>(∀c,c<H.n→H'.get c=H.get c)∧H'.get H.n=some (.cells [.str [],.slice none 0 0] 26 { whole:=true })∧H.n<H'.n:=⟨_,rfl⟩
 have rd : ∀ {H' : AH} {i:Nat},Z H'→(h:i<rs.length)→∃b,q=some b∧H'.read b (0+i*7) 7=some rs[i].cells:=by
  intro H' i hz hi
  rw [hZ] at hz
  cases q with
  | none=>rw [show rs=[] from hq] at hi;cases hi
  | some b =>
   obtain ⟨h1,fl,h2⟩:=hq
   exact ⟨b,rfl,dr Rn.aG (by rw [hz.1 b h1];exact h2) hi⟩
 refine ⟨fun x H' j=>Z H'∧∃(i:Nat) (qa:Option Nat),x=((i:Int),(n:Int),(qa.map (fun b=>(b,0)),(expand (rs.take i)).length))∧i≤rs.length∧bI H' qa (expand (rs.take i)).length (flat aj.cells (expand (rs.take i))) 53∧(∀b,qa=some b→H.n<b∧b<H'.n)∧j=rs.length - i,
  ⟨(0,(n:Int),(none,0)),rs.length,rfl,?_,0,none,rfl,Nat.zero_le _,⟨rfl,rfl⟩,(fun b h=>by cases h),rfl⟩,?_⟩
 ·rw [hZ]
  refine ⟨fun c hc=>by rw [AH.aa,if_neg (by omega)],by rw [AH.aa,if_pos rfl],by simp⟩
 rintro _ H1 j1 ⟨hz,i,qa,rfl,hi,hL,nj,rfl⟩
 by_cases Sx:i<rs.length
 ·have d1:decide ((i:Int)<(rs.length:Int))=true:=by rw [decide_eq_true_iff];omega
  simp only [d1,cond_true]
  obtain ⟨b,rfl,kR⟩:=rd hz Sx
  obtain ⟨c1,c2,c3,c4⟩:=FK hr Sx
  obtain ⟨cc1,cc2⟩:=hc _ (List.getElem_mem Sx)
  obtain ⟨r,Uf⟩ : ∃r,r=rs[i]:=⟨_,rfl⟩
  rw [← Uf] at c1 c2 c3 c4 cc1 cc2 kR
  obtain ⟨A1,uQ⟩ : ∃A1,A1=(H1.alloc (.cells [.int .i64 0,.int .i64 0,.bool false,.bool false,.bool false,.bool false,.int .i64 0] 109 { whole:=true })).set H1.n (.cells r.cells 109 { whole:=true }):=⟨_,rfl⟩
  have MS:A1.get H1.n=some (.cells r.cells 109 { whole:=true }):=by rw [uQ,AH.af,if_pos rfl]
  have F2 : ∀c,c<H1.n→A1.get c=H1.get c:=fun c hc=>by rw [uQ,AH.af,if_neg (by omega),AH.aa,if_neg (by omega)]
  have a1n:A1.n=H1.n+1:=by rw [uQ];rfl
  have iM:=hz
  rw [hZ] at iM
  obtain ⟨z1,z2,z3⟩:=iM
  have r0:A1.ak H1.n 0=some (.int .i64 (r.f:Int)):=by simp [AH.ak,MS,Rn.cells]
  have r1:A1.ak H1.n 1=some (.int .i64 (r.t:Int)):=by simp [AH.ak,MS,Rn.cells]
  have r6:A1.ak H1.n 6=some (.int .i64 r.a.c):=by simp [AH.ak,MS,Rn.cells]
  refine ⟨b,0,⟨rfl,by omega,by omega⟩,_,_,_,_,_,_,_,kR,rfl,A1,by rw [uQ];simp [AH.write,AH.aa,ax,AV.one,Rn.cells],_,r0,_,r1,_,r0,_,r1,_,r6,_,r6,?_⟩
  have c1' : ((r.f:Int) != ((expand (rs.take i)).length:Int) || decide ((r.t:Int)≤(r.f:Int)) || decide ((r.t:Int) > (n:Int)) || decide (r.a.c<0) || decide (r.a.c > 16777216))=false:=by
   have x1:((r.f:Int) != ((expand (rs.take i)).length:Int))=false:=by rw [c1];simp
   have x2:decide ((r.t:Int)≤(r.f:Int))=false:=by rw [decide_eq_false_iff_not];omega
   have x3:decide ((r.t:Int) > (n:Int))=false:=by rw [decide_eq_false_iff_not];omega
   have x4:decide (r.a.c<0)=false:=by rw [decide_eq_false_iff_not];omega
   have x5:decide (r.a.c > 16777216)=false:=by rw [decide_eq_false_iff_not];omega
   rw [x1,x2,x3,x4,x5];rfl
  simp only [c1',cond_false]
  refine ⟨_,r1,_,r0,?_⟩
  have w1:IntKind.i64.wrap ((r.t:Int) - (r.f:Int))=((r.t - r.f:Nat):Int):=by rw [wrap_i64 (by omega) (by omega)];omega
  rw [w1]
  refine ⟨fun x H' j=>Z H'∧∃(m:Nat) (qb:Option Nat),x=((i:Int),(n:Int),(qb.map (fun b=>(b,0)),(expand (rs.take i) ++ List.replicate m r.a).length),H1.n,((r.t - r.f:Nat):Int),(m:Int))∧m≤r.t - r.f ∧
    bI H' qb (expand (rs.take i) ++ List.replicate m r.a).length (flat aj.cells (expand (rs.take i) ++ List.replicate m r.a)) 53∧H'.get H1.n=some (.cells r.cells 109 { whole:=true })∧H1.n<H'.n∧(∀b,qb=some b→H.n<b∧b ≠ H1.n∧b<H'.n)∧j=r.t - r.f - m,
   ⟨((i:Int),(n:Int),(qa.map (fun b=>(b,0)),(expand (rs.take i)).length),H1.n,((r.t - r.f:Nat):Int),0),r.t - r.f,rfl,?_,0,qa,?_,Nat.zero_le _,?_,MS,by omega,fun b hb=>by have:=nj b hb;omega,rfl⟩,?_⟩
  ·rw [hZ];exact ⟨fun c hc=>by rw [F2 c (by omega)];exact z1 c hc,by rw [F2 _ z3];exact z2,by omega⟩
  ·simp only [List.replicate_zero,List.append_nil];rfl
  ·simp only [List.replicate_zero,List.append_nil];exact hL.same fun b hb=>F2 b (nj b hb).2
  rintro _ H2 j2 ⟨nQ,m,qb,rfl,hm,Rh,Sz,NV,Gh,rfl⟩
  have HX:=nQ
  rw [hZ] at HX
  obtain ⟨y1,y2,y3⟩:=HX
  by_cases At:m<r.t - r.f
  ·have d2:decide ((m:Int)<((r.t - r.f:Nat):Int))=true:=by rw [decide_eq_true_iff];omega
   simp only [d2,cond_true]
   have hlen:(expand (rs.take i) ++ List.replicate m r.a).length≤4096:=by rw [List.length_append,List.length_replicate];omega
   obtain ⟨H3,g1,g2,g3,g4⟩:=ri (H:=H2.alloc (.cells r.a.cells 53 { whole:=true })) (q:=qb) (l:=expand (rs.take i) ++ List.replicate m r.a) (y:=r.a) (c:=H2.n) (fl:={ whole:=true })
    (Rh.same fun b hb=>by have:=Gh b hb;rw [AH.aa,if_neg (by omega)]) (by rw [AH.aa,if_pos rfl]) hlen
   have o3 : ∀c,c<H2.n→qb ≠ some c→H3.get c=H2.get c:=fun c hc hq=>by rw [g4 c (by simp only [AH.aC];omega) hq,AH.aa,if_neg (by omega)]
   have ea:expand (rs.take i) ++ List.replicate m r.a ++ [r.a]=expand (rs.take i) ++ List.replicate (m+1) r.a:=by rw [List.append_assoc,← List.replicate_succ']
   rw [ea] at g1 g3
   refine ⟨_,_,_,_,_,by simp [AH.read,Sz,Rn.cells],by decide,_,_,_,H3,g1,((i:Int),(n:Int),(some (H2.n+1,0),(expand (rs.take i) ++ List.replicate (m+1) r.a).length),H1.n,((r.t - r.f:Nat):Int),((m+1:Nat):Int)),r.t - r.f - (m+1),by omega,?_,?_,m+1,some (H2.n+1),rfl,by omega,g3,?_,?_,?_,rfl⟩
   ·rw [wrap_i64 (by omega) (by omega)];rfl
   ·rw [hZ]
    exact ⟨fun c hc=>by rw [o3 c (by omega) (fun e=>by have:=Gh c e;omega)];exact y1 c hc,by rw [o3 _ y3 (fun e=>by have:=Gh _ e;omega)];exact y2,by rw [g2];simp only [AH.aC];omega⟩
   ·rw [o3 _ NV (fun e=>(Gh _ e).2.1 rfl)];exact Sz
   ·rw [g2];simp only [AH.aC];omega
   ·intro b hb;cases hb;rw [g2];simp only [AH.aC];omega
  ·have d2:decide ((m:Int)<((r.t - r.f:Nat):Int))=false:=by rw [decide_eq_false_iff_not];omega
   simp only [d2,cond_false]
   obtain rfl:m=r.t - r.f:=by omega
   rw [← c4] at Rh
   refine ⟨(((i+1:Nat):Int),(n:Int),(qb.map (fun b=>(b,0)),(expand (rs.take (i+1))).length)),rs.length - (i+1),by omega,?_,nQ,i+1,qb,rfl,by omega,Rh,fun b hb=>by have:=Gh b hb;omega,rfl⟩
   rw [wrap_i64 (by omega) (by omega),c4];rfl
 ·have d1:decide ((i:Int)<(rs.length:Int))=false:=by rw [decide_eq_false_iff_not];omega
  simp only [d1,cond_false]
  obtain rfl:i=rs.length:=by omega
  rw [List.take_length] at hL ⊢
  rw [UJ]
  have cU:((n:Int) != (n:Int))=false:=by simp
  simp only [cU,cond_false]
  rw [hZ] at hz
  obtain ⟨z1,z2,z3⟩:=hz
  have Xh:sy H1 qa (expand rs):=by
   cases qa with
   | none=>exact List.length_eq_zero_iff.1 hL.1
   | some b=>exact ⟨(nj b rfl).2,_,hL⟩
  have oW : ∀a ∈ expand rs,0≤a.c∧a.c≤16777216:=by
   clear hs hq hr UJ OT hL Xh hi rd d1 Sx
   intro a ha
   induction rs with
   | nil=>cases ha
   | cons r rs ih =>
    simp only [expand] at ha
    rcases List.mem_append.1 ha with h | h
    ·rw [List.eq_of_mem_replicate h];exact hc r (List.mem_cons_self ..)
    ·exact ih (fun r hr=>hc r (List.mem_cons_of_mem _ hr)) h
  have ht:=Nb s (expand rs) (by omega) oW hs Xh
  rw [UJ] at ht
  refine ht.mono ?_
  rintro v H2 ⟨q2,rfl,g1,g2,g3,g4⟩
  have g0:H2.get H.n=some (.cells [.str [],.slice none 0 0] 26 { whole:=true }):=by rw [g4 _ z3];exact z2
  refine ⟨_,_,_,_,_,rfl,rfl,H2.set H.n (.cells [.str (BF so s),.slice (q2.map fun b=>(b,0)) (lg so).length (lg so).length] 26 { whole:=true }),by simp [AH.write,g0,ax,AV.one],BF so s,_,_,_,by simp [AH.read,AH.af],q2,rfl,?_,fun c hc=>?_,?_,fun c hc=>?_⟩
  ·exact g1.same fun b hb=>by have:=g2 b hb;rw [AH.af,if_neg (by omega)]
  ·have:=g2 c hc;simp only [AH.aZ];omega
  ·simp only [AH.aZ];omega
  ·rw [AH.af,if_neg (by omega),g4 c (by omega)];exact z1 c hc
end Go.Proofs.YtlkdhhkncoekgaaDoor
end
/- mark.laid: pieces behind one another, as a text; its spans are those of how the pieces look. -/
section
namespace Go.Proofs.YtlkdhhkncoekgaaDoor
open Go.Am Go
theorem ig {α:Type} {f:α→List AV} {w:Nat} (hf : ∀x,(f x).length=w) {H:AH} {b i k m:Nat} {l:List α} {e:TypeId} {fl:Fl} (h:H.get b=some (.cells (flat f l) e fl)) (hi:i<l.length) (hk:k+m≤w) :
  H.read b (0+i*w+k) m=some (((f l[i]).drop k).take m):=by
 unfold AH.read
 rw [h]
 have:=le_mul (w:=w) hi
 simp only [Nat.zero_add]
 rw [if_pos (by rw [cX hf];omega),← ym hf hi,List.drop_take,List.take_take,Nat.min_eq_left (by omega),List.drop_drop]
theorem FX {H:AH} {q:Option Nat} {l:List Rn} {y:Rn} {c:Nat} {fl:Fl} (hl:bI H q l.length (flat Rn.cells l) 109) (hc:H.get c=some (.cells y.cells 109 fl)) (hm:l.length≤8192) :
  ∃H',bZ Tryd.prog H 107 107 (sl q l.length) (.slice (some (c,0)) 1 1)=some (sl (some H.n) (l ++ [y]).length,H')∧H'.n=H.n+1∧bI H' (some H.n) (l ++ [y]).length (flat Rn.cells (l ++ [y])) 109∧∀c,c<H.n→q ≠ some c→H'.get c=H.get c :=
 eZ (mT:=32) (s:=7) (z:=.agg (Pw 0)) (by kernel_rfl) (by kernel_rfl) (by kernel_rfl) (by kernel_rfl) rfl (by decide) Rn.aG Rn.ef hl hc (by omega)
theorem FR {H:AH} {q:Option Nat} {so:List UInt8} (hl:bI H q so.length (av so) 5):mO H (.slice (q.map (fun b=>(b,0))) so.length so.length)=some so:=by
 cases q with
 | none =>
  have:so=[]:=List.length_eq_zero_iff.1 hl.1
  rw [this];rfl
 | some c =>
  have hc:H.get c=some (.cells (av so) 5 { fT:=true }):=hl
  have:(av so).length=so.length:=by unfold av;rw [List.length_map]
  simp only [mO,Option.map_some,AH.read,hc,Nat.zero_add,this,Nat.le_refl,if_true,List.drop_zero,Option.bind_some]
  rw [List.take_of_length_le (by omega)];exact uv _
def gI (ps:List (List UInt8×aj)) (i:Nat):List UInt8:=((ps.take i).map Prod.fst).flatten
theorem FU {ps:List (List UInt8×aj)} {i:Nat} (h:i<ps.length):gI ps (i+1)=gI ps i ++ ps[i].1:=by
 unfold gI
 rw [List.take_succ_eq_append_getElem h,List.map_append,List.flatten_append]
 simp
theorem LF (ps:List (List UInt8×aj)) (i:Nat):(gI ps i).length≤((ps.map Prod.fst).flatten).length:=by
 unfold gI
 conv=>rhs;rw [← List.take_append_drop i ps,List.map_append,List.flatten_append,List.length_append]
 omega
theorem AS (ps:List (List UInt8×aj)):gI ps ps.length=(ps.map Prod.fst).flatten:=by unfold gI;rw [List.take_length]
def pJ (H:AH) (s:List UInt8) (so:List ay) (v:AV) (H' : AH):Prop :=
 bif decide (s.length≤4096) then mQ H (Gu so) (BF so s) (lg so) v H' else mQ H 3 [] [] v H'
set_option maxRecDepth 100000 in
theorem Nz (ps:List (List UInt8×aj)) (cU : ∀p ∈ ps,p.1 ≠ []) (hl:((ps.map Prod.fst).flatten).length≤16000) (hk:ps.length≤8000) (Qo:aD (ps.map Prod.fst).flatten ps.length) (hc : ∀p ∈ ps,0≤p.2.c∧p.2.c≤16777216)
  {so:List ay} (hs:wM (bN (ps.map Prod.snd)) so) {H:AH} {q:Option Nat} (cp:Nat) (YS : ∀i (h:i<ps.length),∃b,q=some b∧b<H.n∧∀K:AH,K.get b=H.get b→K.read b (0+i*6) 6=some (br ps[i])) :
  az Tryd.prog 30 [.slice (q.map fun b=>(b,0)) ps.length cp] H (pJ H (ps.map Prod.fst).flatten so):=by
 obtain ⟨Z,hZ⟩ : ∃Z:AH→Prop,Z=fun H'=>(∀c,c<H.n→H'.get c=H.get c)∧H'.get H.n=some (.cells [.str [],.slice none 0 0] 26 { whole:=true })∧H.n<H'.n:=⟨_,rfl⟩
 obtain ⟨I1,U4⟩ : ∃I1:Int×Option (Nat×Nat)×Nat→AH→Nat→Prop,I1=fun x H' j=>Z H'∧∃(i:Nat) (qa:Option Nat),x=((i:Int),qa.map (fun b=>(b,0)),(gI ps i).length)∧i≤ps.length∧(gI ps i).length≤4096 ∧
   bI H' qa (gI ps i).length (av (gI ps i)) 5∧(∀b,qa=some b→H.n<b∧b<H'.n)∧j=ps.length - i:=⟨_,rfl⟩
 obtain ⟨I2,SL⟩ : ∃I2:Int×(Option (Nat×Nat)×Nat)×(Option (Nat×Nat)×Nat)→AH→Nat→Prop,I2=fun x H' j=>Z H'∧∃(i:Nat) (qa q7:Option Nat) (rs:List Rn),x=((i:Int),(qa.map (fun b=>(b,0)),(gI ps ps.length).length),(q7.map (fun b=>(b,0)),rs.length))∧i≤ps.length ∧
   bI H' qa (gI ps ps.length).length (av (gI ps ps.length)) 5∧(∀b,qa=some b→H.n<b∧b<H'.n∧q7 ≠ some b)∧bI H' q7 rs.length (flat Rn.cells rs) 109∧(∀b,q7=some b→H.n<b∧b<H'.n)∧gj 0 rs i∧expand rs=(ps.take i).map Prod.snd ∧
   (∀r ∈ rs,0≤r.a.c∧r.a.c≤16777216)∧j=ps.length - i:=⟨_,rfl⟩
 refine .inl ⟨aB (by kernel_rfl),ew (aT:=_) au (Eq.mpr (HO (real Tryd.prog none) (q.map fun b=>(b,0)) ps.length cp H (pJ H (ps.map Prod.fst).flatten so) I1 I2) ?_)⟩
 simp only [bL,bq,aY,bh,aJ,cm,aL,fD,Hg]
 have fresh : ∀ {H:AH} {o:aS} {v:List AV} {c:Nat},c<H.n→((H.alloc o).set H.n (.cells v 79 { whole:=true })).get c=H.get c:=fun {H o v c} hc=>by
  rw [AH.af,if_neg (by omega),AH.aa,if_neg (by omega)]
 have rd : ∀ {H' : AH} {i:Nat},Z H'→(h:i<ps.length)→∃b,q=some b∧H'.read b (0+i*6) 6=some (br ps[i]):=by
  intro H' i hz hi
  rw [hZ] at hz
  obtain ⟨b,h1,h2,h3⟩:=YS i hi
  exact ⟨b,h1,h3 H' (hz.1 b h2)⟩
 refine ⟨⟨(0,none,0),ps.length,rfl,?_⟩,?_⟩
 ·rw [U4,hZ]
  exact ⟨⟨fun c hc=>by rw [AH.aa,if_neg (by omega)],by rw [AH.aa,if_pos rfl],by simp⟩,0,none,rfl,Nat.zero_le _,Nat.zero_le _,⟨rfl,rfl⟩,(fun b h=>by cases h),rfl⟩
 rintro x H1 j1 hx
 rw [U4] at hx
 obtain ⟨hz,i,qa,rfl,hi,U8,hL,nj,rfl⟩:=hx
 have iM:=hz
 rw [hZ] at iM
 obtain ⟨y1,y2,y3⟩:=iM
 by_cases Mx:i<ps.length
 ·have d1:decide ((i:Int)<(ps.length:Int))=true:=by rw [decide_eq_true_iff];omega
  simp only [d1,cond_true]
  obtain ⟨b,rfl,kR⟩:=rd hz Mx
  have So:=FU Mx
  have hle:=LF ps (i+1)
  rw [So,List.length_append] at hle
  refine ⟨b,0,⟨rfl,by omega,by omega⟩,_,_,_,_,_,_,kR,rfl,(H1.alloc (.cells [.str [],.bool false,.bool false,.bool false,.bool false,.int .i64 0] 79 { whole:=true })).set H1.n (.cells (br ps[i]) 79 { whole:=true }),by simp [AH.write,AH.aa,ax,AV.one,br,aj.cells],ps[i].1,by simp [AH.ak,AH.af,br],?_⟩
  have hw:IntKind.i64.wrap (((gI ps i).length:Int)+(ps[i].1.length:Int))=((gI ps i).length:Int)+(ps[i].1.length:Int):=wrap_i64 (by omega) (by omega)
  by_cases h97:(gI ps i).length+ps[i].1.length > 4096
  ·have c1:IntKind.i64.wrap (((gI ps i).length:Int)+(ps[i].1.length:Int)) > 4096:=by rw [hw];omega
   simp only [c1,decide_true,cond_true]
   obtain ⟨A,hA⟩ : ∃A,A=(H1.alloc (.cells [.str [],.bool false,.bool false,.bool false,.bool false,.int .i64 0] 79 { whole:=true })).set H1.n (.cells (br ps[i]) 79 { whole:=true }):=⟨_,rfl⟩
   have ao : ∀c,c<H1.n→A.get c=H1.get c:=fun c hc=>by rw [hA];exact fresh hc
   have an:A.n=H1.n+1:=by rw [hA];rfl
   rw [← hA]
   have a0:A.get H.n=some (.cells [.str [],.slice none 0 0] 26 { whole:=true }):=by rw [ao _ y3];exact y2
   refine ⟨rfl,A.set H.n (.cells [.str [],.slice none 0 0] 26 { whole:=true }),by simp [AH.write,a0,ax,AV.one],[],none,0,0,by simp [AH.read,AH.af],?_⟩
   unfold pJ
   have:decide ((ps.map Prod.fst).flatten.length≤4096)=false:=by rw [decide_eq_false_iff_not];omega
   rw [this]
   refine ⟨none,rfl,⟨rfl,rfl⟩,(fun c hc=>by cases hc),?_,fun c hc=>?_⟩
   ·simp only [AH.aZ];omega
   ·rw [AH.af,if_neg (by omega),ao c (by omega)];exact y1 c hc
  have c1 : ¬ (IntKind.i64.wrap (((gI ps i).length:Int)+(ps[i].1.length:Int)) > 4096):=by rw [hw];omega
  simp only [c1,decide_false,cond_false]
  obtain ⟨H3,g1,g2,g3,g4⟩:=CX (H:=(H1.alloc (.cells [.str [],.bool false,.bool false,.bool false,.bool false,.int .i64 0] 79 { whole:=true })).set H1.n (.cells (br ps[i]) 79 { whole:=true })) (q:=qa) (so:=gI ps i) (s:=ps[i].1)
   (hL.same fun b hb=>fresh (nj b hb).2) (cU _ (List.getElem_mem Mx)) (by omega)
  have hn3:H3.n=H1.n+2:=by rw [g2];simp
  have old : ∀c,c≤H.n→H3.get c=H1.get c:=fun c hc=>by
   rw [g4 c (by simp only [AH.aZ,AH.aC];omega) (fun e=>by have:=nj c e;omega),fresh (by omega)]
  refine ⟨ps[i].1,by simp [AH.ak,AH.af,br],_,_,_,H3,g1,((i+1:Nat),some (H1.n+1,0),(gI ps (i+1)).length),ps.length - (i+1),by omega,?_,?_⟩
  ·have e2:=wrap_i64 (n:=(i:Int)+1) (by omega) (by omega)
   simp only [e2,So];rfl
  ·rw [U4,hZ]
   refine ⟨⟨fun c hc=>by rw [old _ (by omega)];exact y1 c hc,by rw [old _ (by omega)];exact y2,by omega⟩,i+1,some (H1.n+1),rfl,by omega,by rw [So,List.length_append];omega,?_,?_,rfl⟩
   ·rw [So];exact g3
   ·intro b hb;cases hb;omega
 ·have d1:decide ((i:Int)<(ps.length:Int))=false:=by rw [decide_eq_false_iff_not];omega
  simp only [d1,cond_false]
  obtain rfl:i=ps.length:=by omega
  refine ⟨⟨(0,(qa.map (fun b=>(b,0)),(gI ps ps.length).length),(none,0)),ps.length,rfl,?_⟩,?_⟩
  ·rw [SL];exact ⟨hz,0,qa,none,[],rfl,Nat.zero_le _,hL,fun b hb=>⟨(nj b hb).1,(nj b hb).2,fun e=>by cases e⟩,⟨rfl,rfl⟩,(fun b h=>by cases h),rfl,rfl,(fun r h=>by cases h),rfl⟩
  clear hz hL nj y1 y2 y3 hi Mx d1
  rintro x H2 j2 hx
  rw [SL] at hx
  obtain ⟨hz,i,qa,q7,rs,rfl,hi,hL,nj,hR,Qu,Bg,hex,Ft,rfl⟩:=hx
  have iM:=hz
  rw [hZ] at iM
  obtain ⟨y1,y2,y3⟩:=iM
  by_cases Mx:i<ps.length
  ·have d1:decide ((i:Int)<(ps.length:Int))=true:=by rw [decide_eq_true_iff];omega
   simp only [d1,cond_true]
   obtain ⟨b,rfl,kR⟩:=rd hz Mx
   obtain ⟨a,ha⟩ : ∃a,a=ps[i].2:=⟨_,rfl⟩
   have O1:=hc _ (List.getElem_mem Mx)
   rw [← ha] at O1
   obtain ⟨A,hA⟩ : ∃A,A=(H2.alloc (.cells [.str [],.bool false,.bool false,.bool false,.bool false,.int .i64 0] 79 { whole:=true })).set H2.n (.cells (br ps[i]) 79 { whole:=true }):=⟨_,rfl⟩
   have ag:A.get H2.n=some (.cells (br ps[i]) 79 { whole:=true }):=by rw [hA,AH.af,if_pos rfl]
   have ao : ∀c,c<H2.n→A.get c=H2.get c:=fun c hc=>by rw [hA];exact fresh hc
   have an:A.n=H2.n+1:=by rw [hA];rfl
   have He:A.read H2.n 1 5=some [.bool a.b,.bool a.i,.bool a.u,.bool a.k,.int .i64 a.c]:=by
    rw [ha];simp [AH.read,ag,br,aj.cells]
   have e2:=wrap_i64 (n:=(i:Int)+1) (by omega) (by omega)
   have Wx:(ps.take (i+1)).map Prod.snd=(ps.take i).map Prod.snd ++ [a]:=by rw [List.take_succ_eq_append_getElem Mx,List.map_append,ha];rfl
   have OT:=mL Bg
   have more : ∃q4 sk qQ H8,bZ Tryd.prog (A.alloc (.cells [.int .i64 (i:Int),.int .i64 (IntKind.i64.wrap ((i:Int)+1)),.bool a.b,.bool a.i,.bool a.u,.bool a.k,.int .i64 a.c] 109 { whole:=true })) 107 107 (.slice (q7.map fun b=>(b,0)) rs.length rs.length) (.slice (some (A.n,0)) 1 1)=some (.slice q4 sk qQ,H8) ∧
     ∃x k,k<ps.length - i∧[AV.ptr (some (H.n,0)),.int .i64 0,.slice (qa.map fun b=>(b,0)) (gI ps ps.length).length (gI ps ps.length).length,.slice q4 sk qQ,.slice ((some b).map fun b=>(b,0)) ps.length cp,.int .i64 (ps.length:Int),.int .i64 (IntKind.i64.wrap ((i:Int)+1))] =
      [.ptr (some (H.n,0)),.int .i64 0,.slice x.2.1.1 x.2.1.2 x.2.1.2,.slice x.2.2.1 x.2.2.2 x.2.2.2,.slice ((some b).map fun b=>(b,0)) ps.length cp,.int .i64 (ps.length:Int),.int .i64 x.1]∧I2 x H8 k:=by
    obtain ⟨H8,g1,g2,g3,g4⟩:=FX (H:=A.alloc (.cells (Rn.cells ⟨i,i+1,a⟩) 109 { whole:=true })) (q:=q7) (l:=rs) (y:=⟨i,i+1,a⟩) (c:=A.n) (fl:={ whole:=true })
     (hR.same fun b hb=>by have:=Qu b hb;rw [AH.aa,if_neg (by omega),ao b this.2]) (by rw [AH.aa,if_pos rfl]) (by omega)
    have old : ∀c,c<H2.n→q7 ≠ some c→H8.get c=H2.get c:=fun c hc hq=>by
     rw [g4 c (by simp only [AH.aC];omega) hq,AH.aa,if_neg (by omega),ao c hc]
    have hn8:H8.n=H2.n+3:=by rw [g2];simp only [AH.aC];omega
    refine ⟨some (A.n+1,0),(rs ++ [(⟨i,i+1,a⟩ : Rn)]).length,(rs ++ [(⟨i,i+1,a⟩ : Rn)]).length,H8,?_,((i+1:Nat),(qa.map (fun b=>(b,0)),(gI ps ps.length).length),(some (A.n+1,0),(rs ++ [(⟨i,i+1,a⟩ : Rn)]).length)),ps.length - (i+1),by omega,?_,?_⟩
    ·rw [e2];exact g1
    ·rw [e2];rfl
    ·rw [SL,hZ]
     refine ⟨⟨fun c hc=>by rw [old c (by omega) (fun e=>by have:=Qu c e;omega)];exact y1 c hc,by rw [old _ y3 (fun e=>by have:=Qu _ e;omega)];exact y2,by omega⟩,i+1,qa,some (A.n+1),rs ++ [(⟨i,i+1,a⟩ : Rn)],rfl,by omega,
      hL.same fun b hb=>old b (nj b hb).2.1 (nj b hb).2.2,fun b hb=>⟨(nj b hb).1,by have:=nj b hb;omega,fun e=>by have:=nj b hb;have:=Option.some.inj e;omega⟩,g3,(fun b hb=>by cases hb;omega),?_,?_,?_,rfl⟩
     ·exact eP.2 ⟨i,Bg,rfl,Nat.lt_succ_self i,rfl⟩
     ·rw [eM,hex,Wx];simp [expand]
     ·intro r hr
      rcases List.mem_append.1 hr with h | h
      ·exact Ft r h
      ·simp only [List.mem_singleton] at h;rw [h];exact O1
   refine ⟨b,0,⟨rfl,by omega,by omega⟩,_,_,_,_,_,_,kR,rfl,A,by rw [hA];simp [AH.write,AH.aa,ax,AV.one,br,aj.cells],?_⟩
   rcases List.eq_nil_or_concat rs with rfl | ⟨pQ,r,rfl⟩
   ·have c1:(decide (((([]:List Rn).length:Nat):Int) > 0) == true)=false:=by decide
    simp only [c1,cond_false]
    obtain ⟨q4,sk,qQ,H8,m1,x,k,m2,m3,m4⟩:=more
    exact ⟨_,_,_,_,_,He,by decide,q4,sk,qQ,H8,m1,x,k,m2,m3,m4⟩
   ·rw [List.concat_eq_append] at *
    have hlen:(pQ ++ [r]).length=pQ.length+1:=by simp
    have c1:(decide ((((pQ ++ [r]).length:Nat):Int) > 0) == true)=true:=by rw [hlen,beq_iff_eq,decide_eq_true_iff];omega
    have w0:IntKind.i64.wrap (((pQ ++ [r]).length:Int) - 1)=(pQ.length:Int):=by rw [hlen,wrap_i64 (by omega) (by omega)];omega
    simp only [c1,cond_true,w0]
    cases q7 with
    | none=>have:=hR.1;rw [hlen] at this;omega
    | some c =>
     have ZG:H2.get c=some (.cells (flat Rn.cells (pQ ++ [r])) 109 { fT:=true }):=hR
     obtain ⟨p1,p2⟩:=Qu c rfl
     have U7:A.get c=some (.cells (flat Rn.cells (pQ ++ [r])) 109 { fT:=true }):=by rw [ao c p2];exact ZG
     have Ua:(pQ ++ [r])[pQ.length]'(by rw [hlen];omega)=r:=by simp
     have YO:A.read c (0+((pQ.length:Int)).toNat*7+2) 5=some [.bool r.a.b,.bool r.a.i,.bool r.a.u,.bool r.a.k,.int .i64 r.a.c]:=by
      have:=ig Rn.aG U7 (i:=pQ.length) (k:=2) (m:=5) (by rw [hlen];omega) (by decide)
      rw [Ua] at this
      rw [show ((pQ.length:Int)).toNat=pQ.length by omega,this];simp [Rn.cells]
     refine ⟨c,0,⟨rfl,by omega,by omega⟩,_,_,_,_,_,YO,_,_,_,_,_,He,?_⟩
     cases hq:(r.a.b == a.b && (r.a.i == a.i && (r.a.u == a.u && (r.a.k == a.k && (r.a.c == a.c && true))))) with
     | true =>
      simp only [cond_true]
      have YQ:r.a=a:=by
       simp only [Bool.and_eq_true,beq_iff_eq,and_true] at hq
       obtain ⟨x1,x2,x3,x4,x5⟩:=hq
       cases hr:r.a;cases a
       rw [hr] at x1 x2 x3 x4 x5
       simp only at x1 x2 x3 x4 x5
       rw [x1,x2,x3,x4,x5]
      obtain ⟨m,t1,t2,t3,t4⟩:=eP.1 Bg
      have t4' : r.t=i:=t4
      have Qs:A.ak c (0+((pQ.length:Int)).toNat*7+1)=some (.int .i64 (r.t:Int)):=by
       have:=j4 Rn.aG U7 (i:=pQ.length) (k:=1) (by rw [hlen];omega) (by decide)
       rw [Ua] at this
       rw [show ((pQ.length:Int)).toNat=pQ.length by omega,this];rfl
      have rM:(pQ ++ [r]).set pQ.length ⟨r.f,r.t+1,r.a⟩=pQ ++ [⟨r.f,r.t+1,r.a⟩]:=by simp
      have e3:IntKind.i64.wrap ((r.t:Int)+1)=((r.t+1:Nat):Int):=by rw [wrap_i64 (by omega) (by omega)];omega
      have hw:A.write c (0+((pQ.length:Int)).toNat*7+1) [.int .i64 (IntKind.i64.wrap ((r.t:Int)+1))]=some (A.set c (.cells (flat Rn.cells (pQ ++ [⟨r.f,r.t+1,r.a⟩])) 109 { fT:=true })):=by
       have:=jU (f:=Rn.cells) Rn.aG U7 rfl rfl (i:=pQ.length) (k:=1) (vs:=[.int .i64 ((r.t+1:Nat):Int)]) (y:=⟨r.f,r.t+1,r.a⟩) (by rw [hlen];omega) (by simp) (by simp [AV.one]) (by rw [Ua];simp [ax,Rn.cells])
       rw [rM] at this
       rw [show ((pQ.length:Int)).toNat=pQ.length by omega,e3,this]
      refine ⟨c,0,⟨rfl,by omega,by omega⟩,_,Qs,c,0,⟨rfl,by omega,by omega⟩,rfl,_,hw,((i:Int)+1,(qa.map (fun b=>(b,0)),(gI ps ps.length).length),(some (c,0),(pQ ++ [(⟨r.f,r.t+1,r.a⟩ : Rn)]).length)),ps.length - (i+1),by omega,?_,?_⟩
      ·rw [e2,hlen];simp
      ·rw [SL,hZ]
       refine ⟨⟨fun d hd=>by rw [AH.af,if_neg (by omega),ao d (by omega)];exact y1 d hd,by rw [AH.af,if_neg (by omega),ao _ y3];exact y2,by simp only [AH.aZ];omega⟩,i+1,qa,some c,pQ ++ [(⟨r.f,r.t+1,r.a⟩ : Rn)],rfl,by omega,
        hL.same fun d hd=>?_,fun d hd=>⟨(nj d hd).1,by have:=nj d hd;simp only [AH.aZ];omega,(nj d hd).2.2⟩,?_,(fun d hd=>by cases hd;simp only [AH.aZ];omega),?_,?_,?_,rfl⟩
       ·have:=nj d hd
        rw [AH.af,if_neg (fun e=>this.2.2 (by rw [e])),ao d this.2.1]
       ·show (A.set c _).get c=_
        rw [AH.af,if_pos rfl]
       ·exact eP.2 ⟨m,t1,t2,Nat.lt_succ_of_lt t3,by show r.t+1=i+1;omega⟩
       ·rw [Wx,← hex,eM,eM]
        simp only [expand,List.append_nil,List.append_assoc]
        congr 1
        rw [show r.t+1 - r.f=(r.t - r.f)+1 by omega,List.replicate_succ',YQ]
       ·intro r' DE
        rcases List.mem_append.1 DE with h | h
        ·exact Ft r' (List.mem_append.2 (.inl h))
        ·simp only [List.mem_singleton] at h;rw [h];exact Ft r (List.mem_append.2 (.inr (List.mem_singleton.2 rfl)))
     | false =>
      simp only [cond_false]
      obtain ⟨q4,sk,qQ,H8,m1,x,k,m2,m3,m4⟩:=more
      exact ⟨_,_,_,_,_,He,by decide,q4,sk,qQ,H8,m1,x,k,m2,m3,m4⟩
  ·have d1:decide ((i:Int)<(ps.length:Int))=false:=by rw [decide_eq_false_iff_not];omega
   simp only [d1,cond_false]
   obtain rfl:i=ps.length:=by omega
   rw [List.take_length] at hex
   refine ⟨_,FR hL,?_⟩
   have ZH:Jd H2 q7 rs:=by
    cases q7 with
    | none=>exact List.length_eq_zero_iff.1 hR.1
    | some c=>exact ⟨(Qu c rfl).2,_,hR⟩
   rw [AS]
   rw [AS] at U8
   have hF:decide ((ps.map Prod.fst).flatten.length≤4096)=true:=by rw [decide_eq_true_iff];exact U8
   refine (OC (ps.map Prod.fst).flatten ps.length Qo U8 rs Bg Ft (by rw [hex];exact hs) ZH).mono ?_
   rintro v H3 ⟨q2,rfl,g1,g2,g3,g4⟩
   have g0:H3.get H.n=some (.cells [.str [],.slice none 0 0] 26 { whole:=true }):=by rw [g4 _ y3];exact y2
   refine ⟨_,_,_,_,_,rfl,rfl,H3.set H.n (.cells [.str (BF so (ps.map Prod.fst).flatten),.slice (q2.map fun b=>(b,0)) (lg so).length (lg so).length] 26 { whole:=true }),by simp [AH.write,g0,ax,AV.one],BF so (ps.map Prod.fst).flatten,q2.map fun b=>(b,0),(lg so).length,(lg so).length,by simp [AH.read,AH.af],?_⟩
   unfold pJ
   rw [hF]
   refine ⟨q2,rfl,?_,fun c hc=>?_,?_,fun c hc=>?_⟩
   ·exact g1.same fun b hb=>by have:=g2 b hb;rw [AH.af,if_neg (by omega)]
   ·have:=g2 c hc;simp only [AH.aZ];omega
   ·simp only [AH.aZ];omega
   ·rw [AH.af,if_neg (by omega),g4 c (by omega)];exact y1 c hc
end Go.Proofs.YtlkdhhkncoekgaaDoor
end
