/- style.made, style.text, style.Make, mark.laid: a text's spans are those of how its signs look, in normal form. -/
import Derived.Test.YtlkdhhkncoekgaaGreatDoorScan
import Derived.Test.YtlkdhhkncoekgaaGreatDoorMadeVc
/- What a look has of a kind; the cells of the cuts; what the making of spans keeps. -/
section
namespace Go.Proofs.YtlkdhhkncoekgaaGreatDoor
open Go.Am Go
theorem tv (a:aj) (n:Int):Pure Tryz.prog 146 [.agg a.cells,.int .i64 n] (.int .i64 (a.get n)):=by
 obtain ⟨b,i,u,k,c⟩:=a
 refine Pure.fB aq [] (by kernel_rfl) rfl (by simp [AV.bT]) ?_
 show fG _ _ _ _ [.agg [.bool b,.bool i,.bool u,.bool k,.int .i64 c],.int .i64 n] _ _
 rw [G6]
 by_cases h1:n=1
 ·subst h1;cases b <;> simp [AH.ak,AH.aa,aj.get,gJ]
 by_cases h2:n=2
 ·subst h2;cases i <;> simp [AH.ak,AH.aa,aj.get,gJ]
 by_cases h3:n=3
 ·subst h3;cases u <;> simp [AH.ak,AH.aa,aj.get,gJ]
 by_cases h4:n=4
 ·subst h4;cases k <;> simp [AH.ak,AH.aa,aj.get,gJ]
 by_cases h5:n=5 <;> simp [AH.ak,AH.aa,aj.get,h1,h2,h3,h4,h5]
def di (cut:Nat→Bool) (n:Nat):List AV:=(List.range (n+1)).map fun j=>.bool (cut j)
theorem dA (cut:Nat→Bool) (n:Nat):(di cut n).length=n+1:=by simp [di]
theorem gj (cut:Nat→Bool) (n t:Nat):(di cut n)[t]? = if t≤n then some (.bool (cut t)) else none:=by
 unfold di
 rw [List.getElem?_map]
 by_cases h:t≤n
 ·rw [if_pos h,List.getElem?_eq_getElem (by rw [List.length_range];omega),List.getElem_range];rfl
 ·rw [if_neg h,List.getElem?_eq_none (by rw [List.length_range];omega)];rfl
theorem r8 : ∀n,cJ [.bool false] (n+1)=di (fun _=>false) n:=by
 intro n
 have e : ∀m,cJ [.bool false] m=List.replicate m (.bool false):=by
  intro m
  induction m with
  | zero=>rfl
  | succ m ih=>rw [List.replicate_succ,← ih];rfl
 rw [e]
 apply List.ext_getElem?
 intro i
 rw [gj,List.getElem?_replicate]
 by_cases h:i≤n
 ·rw [if_pos h,if_pos (by omega)]
 ·rw [if_neg h,if_neg (by omega)]
theorem B0 {l:List AV} {t:Nat} {v:AV} (h:t<l.length):aA l t [v]=l.set t v:=by
 rw [List.set_eq_take_append_cons_drop,if_pos h];rfl
theorem lf {cut:Nat→Bool} {n t:Nat} (h:t≤n):aA (di cut n) t [.bool true]=di (fun j=>cut j || j == t) n:=by
 rw [B0 (by rw [dA];omega)]
 apply List.ext_getElem?
 intro i
 rw [List.getElem?_set,gj,gj,dA]
 by_cases e:t=i
 ·subst e;rw [if_pos rfl,if_pos (by omega),if_pos h];simp
 ·rw [if_neg e]
  have:(i == t)=false:=by rw [beq_eq_false_iff_ne];omega
  simp only [this,Bool.or_false]
theorem iz {c d:Nat→Bool} {n:Nat} (h : ∀j,j≤n→c j=d j):di c n=di d n:=by
 apply List.ext_getElem?
 intro i
 rw [gj,gj]
 by_cases e:i≤n
 ·rw [if_pos e,if_pos e,h i e]
 ·rw [if_neg e,if_neg e]
def jE (H:AH) (q:Option Nat) (L:List aj):Prop :=
 match q with
 | none=>L=[]
 | some b=>b<H.n∧∃fl,H.get b=some (.cells (flat aj.cells L) 63 fl)
def EA (H:AH) (sp:List av) (v:AV) (H' : AH):Prop :=
 ∃q,v=sl q sp.length∧bQ H' q sp.length (flat av.cells sp) 54∧(∀c,q=some c→H.n≤c∧c<H'.n)∧H.n≤H'.n∧∀c,c<H.n→H'.get c=H.get c
def xD (sp so:List av):Prop:=so.length=sp.length ∧
 ∀(H:AH) (q:Option Nat),bQ H q sp.length (flat av.cells sp) 54→(∀c,q=some c→c<H.n) →
  aD Tryz.prog 127 [sl q sp.length,.func (.func 147) [] []] H fun v H' =>
   v=.tuple []∧bQ H' q so.length (flat av.cells so) 54∧H.n≤H'.n∧∀c,c<H.n→q ≠ some c→H'.get c=H.get c
structure MZ (H H' : AH) (n:Nat) (cut:Nat→Bool) (qo:Option Nat) (out:List av):Prop where
 old : ∀c,c<H.n→H'.get c=H.get c
 cut:H'.get H.n=some (.cells (di cut n) 4 {})
 lt:H.n<H'.n
 out:bQ H' qo out.length (flat av.cells out) 54
 bd : ∀c,qo=some c→H.n<c∧c<H'.n
theorem MZ.eA {H H1 H2:AH} {n:Nat} {cut:Nat→Bool} {qo:Option Nat} {out:List av} (h:MZ H H1 n cut qo out) (hn:H1.n≤H2.n) (k : ∀c,c<H1.n→H2.get c=H1.get c):MZ H H2 n cut qo out:=by
 have:=h.lt
 exact ⟨fun c hc=>by rw [k c (by omega)];exact h.old c hc,by rw [k _ h.lt];exact h.cut,by omega,h.out.same fun b hb=>k b (h.bd b hb).2,fun c hc=>by have:=h.bd c hc;omega⟩
theorem vj {H:AH} {q:Option Nat} {l:List av} {y:av} {c:Nat} {fl:Fl} (hl:bQ H q l.length (flat av.cells l) 54) (hc:H.get c=some (.cells y.cells 54 fl)) (hm:l.length≤100000) :
  ∃H',bV Tryz.prog H 22 22 (sl q l.length) (.slice (some (c,0)) 1 1)=some (sl (some H.n) (l ++ [y]).length,H')∧H'.n=H.n+1∧bQ H' (some H.n) (l ++ [y]).length (flat av.cells (l ++ [y])) 54∧∀c,c<H.n→q ≠ some c→H'.get c=H.get c :=
 gl (nA:=32) (s:=4) (z:=.agg [.int .i64 0,.int .i64 0,.int .i64 0,.int .i64 0]) (by kernel_rfl) (by kernel_rfl) (by kernel_rfl) (by kernel_rfl) rfl (by decide) av.ay av.dz hl hc (by omega)
end Go.Proofs.YtlkdhhkncoekgaaGreatDoor
end
/- style.made hands back the spans of a text in normal form, put in order. -/
section
namespace Go.Proofs.YtlkdhhkncoekgaaGreatDoor
open Go.Am Go
theorem Sj {M:Int} (hM:1≤M) {a:aj} (h:0≤a.c∧a.c≤M) (k:Int):0≤a.get k∧a.get k≤M:=by
 have o : ∀b,0≤gJ b∧gJ b≤1:=fun b=>by cases b <;> decide
 have o1:=o a.b
 have o2:=o a.i
 have o3:=o a.u
 have o4:=o a.k
 unfold aj.get
 split
 ·omega
 ·split
  ·omega
  ·split
   ·omega
   ·split
    ·omega
    ·split
     ·exact h
     ·omega
theorem v9 {L:List aj} (hc : ∀a ∈ L,0≤a.c∧a.c≤16777216) {k:Int} {i:Nat} (h:i<L.length):0≤val L k i∧val L k i≤16777216:=by
 rw [lO h]
 exact Sj (by decide) (hc _ (List.getElem_mem h)) k
set_option maxRecDepth 100000 in
theorem Ob (L:List aj) (hL:L.length≤4096) (hc : ∀a ∈ L,0≤a.c∧a.c≤16777216) {so:List av} (hs:xD (bt L) so) {H:AH} {q:Option Nat} (hq:jE H q L) :
  aD Tryz.prog 131 [sl q L.length] H (EA H so):=by
 refine .inl ⟨aB (by kernel_rfl),bP (aS:=_) (c9:=_) aq (Eq.mpr (Iv (real Tryz.prog) (Iter Tryz.prog) (q.map fun b=>(b,0)) L.length H (EA H so)) ?_)⟩
 simp only [bu,aU,aQ,aP,aF,bU,tT,aK,jY,eR]
 obtain ⟨n,hn⟩ : ∃n,n=L.length:=⟨_,rfl⟩
 rw [← hn] at hL ⊢
 have e1:IntKind.i64.wrap ((n:Int)+1)=((n+1:Nat):Int):=by rw [wrap_i64 (by omega) (by omega)];omega
 rw [e1]
 have rd : ∀ {H' : AH} {i:Nat},(∀c,c<H.n→H'.get c=H.get c)→(h:i<L.length)→∃b,q=some b∧H'.read b (0+i*5) 5=some L[i].cells:=by
  intro H' i ho hi
  cases q with
  | none=>rw [show L=[] from hq] at hi;cases hi
  | some b =>
   obtain ⟨h1,fl,h2⟩:=hq
   exact ⟨b,rfl,cH aj.ay (by rw [ho b h1];exact h2) hi⟩
 refine ⟨_,_,_,_,wK H (n+1) (by omega),?_⟩
 have Pz:MZ H (H.alloc (.cells (cJ [.bool false] (n+1)) 4 {})) n (fun _=>false) none []:=by
  refine ⟨fun c hc=>by rw [AH.aa,if_neg (by omega)],by rw [AH.aa,if_pos rfl,r8],by simp,⟨rfl,rfl⟩,fun c h=>by cases h⟩
 refine ⟨fun x H' j=>∃k qo,k≤5∧x=(((k+1:Nat):Int),(some (H.n,0),n+1),(qo.map (fun b=>(b,0)),(ax L k).1.length))∧MZ H H' n (ax L k).2 qo (ax L k).1∧j=5 - k,
  ⟨(1,(some (H.n,0),n+1),(none,0)),5,rfl,0,none,by omega,rfl,Pz,rfl⟩,?_⟩
 rintro _ H1 j1 ⟨k,qo,hk,rfl,hz,rfl⟩
 by_cases Z7:k<5
 ·have d1:decide (((k+1:Nat):Int)≤5)=true:=by rw [decide_eq_true_iff];omega
  simp only [d1,cond_true]
  obtain ⟨K,hK⟩ : ∃K,K=ax L k:=⟨_,rfl⟩
  obtain ⟨kd,Nc⟩ : ∃kd:Int,kd=((k+1:Nat):Int):=⟨_,rfl⟩
  have Us:1≤kd∧kd≤5:=by omega
  rw [← hK] at hz
  rw [← hK,← Nc]
  obtain ⟨S0,Je⟩ : ∃S0,S0=bB (val L kd) K.2 n kd 0:=⟨_,rfl⟩
  have Ya:K.1.length≤5*n:=by
   have:=iS L k
   rw [← hK,← hn] at this
   have h5:k*n≤5*n:=Nat.mul_le_mul_right n (by omega)
   omega
  have VN:S0.length≤n:=by
   have:=lR (val:=val L kd) (cut:=K.2) (n:=n) (k:=kd) (n - 0) (i:=0) rfl
   rw [← Je] at this;omega
  refine ⟨fun x H' j=>∃(i:Nat) (done:List av) (qo:Option Nat),x=((kd,(some (H.n,0),n+1),(qo.map (fun b=>(b,0)),(K.1 ++ done).length)),(K.1.length:Int),(i:Int))∧i≤n ∧
    done ++ bB (val L kd) K.2 n kd i=S0∧MZ H H' n K.2 qo (K.1 ++ done)∧j=n - i,
   ⟨((kd,(some (H.n,0),n+1),(qo.map (fun b=>(b,0)),K.1.length)),(K.1.length:Int),0),n,rfl,0,[],qo,by rw [List.append_nil];rfl,Nat.zero_le _,by rw [Je];rfl,by rw [List.append_nil];exact hz,rfl⟩,?_⟩
  rintro _ H2 j2 ⟨i,done,q2,rfl,hi,lA,ju,rfl⟩
  have Vq:done.length≤n:=by
   have:=congrArg List.length lA
   rw [List.length_append] at this;omega
  by_cases fO:i<n
  ·have d2:decide ((i:Int)<(n:Int))=true:=by rw [decide_eq_true_iff];omega
   simp only [d2,cond_true]
   obtain ⟨b,rfl,iu⟩:=rd ju.old (i:=i) (by omega)
   have hv:L[i].get kd=val L kd i:=(lO (by omega)).symm
   obtain ⟨YZ,YY⟩:=v9 hc (k:=kd) (i:=i) (by omega)
   refine ⟨b,0,⟨rfl,by omega,by omega⟩,_,_,_,_,_,iu,?_⟩
   refine (tv L[i] kd).c7 ⟨_,rfl,?_⟩
   rw [hv]
   have w1:IntKind.i64.wrap ((i:Int)+1)=((i+1:Nat):Int):=by rw [wrap_i64 (by omega) (by omega)];omega
   rw [w1]
   obtain ⟨e,he⟩ : ∃e,e=cS (alike (val L kd) K.2 i) n (i+1):=⟨_,rfl⟩
   have Vp:i<e∧e≤n:=by
    have:=dQ (g:=alike (val L kd) K.2 i) (n:=n) (j:=i+1) (by omega)
    rw [← he] at this;omega
   refine ⟨fun x H'=>x=(((kd,(some (H.n,0),n+1),(q2.map (fun b=>(b,0)),(K.1 ++ done).length)),(K.1.length:Int),(i:Int)),val L kd i,(e:Int))∧H2=H',⟨?_,?_⟩⟩
   ·
    refine ⟨fun x H' j=>∃jj:Nat,x=(((kd,(some (H.n,0),n+1),(q2.map (fun b=>(b,0)),(K.1 ++ done).length)),(K.1.length:Int),(i:Int)),val L kd i,(jj:Int))∧H2=H'∧i<jj∧jj≤n∧cS (alike (val L kd) K.2 i) n jj=e∧j=n - jj,
     ⟨(((kd,(some (H.n,0),n+1),(q2.map (fun b=>(b,0)),(K.1 ++ done).length)),(K.1.length:Int),(i:Int)),val L kd i,((i+1:Nat):Int)),n - (i+1),rfl,i+1,rfl,rfl,by omega,by omega,he.symm,rfl⟩,?_⟩
    rintro _ _ j3 ⟨jj,rfl,rfl,c1,c2,c3,rfl⟩
    by_cases hj:jj<n
    ·have d3:decide ((jj:Int)<(n:Int))=true:=by rw [decide_eq_true_iff];omega
     simp only [d3,BEq.rfl,cond_true]
     obtain ⟨b',dM,uG⟩:=rd ju.old (i:=jj) (by omega)
     cases dM
     have UK:L[jj].get kd=val L kd jj:=(lO (by omega)).symm
     refine ⟨b,0,fun _=>⟨rfl,by omega,by omega⟩,L[jj].b,L[jj].i,L[jj].u,L[jj].k,L[jj].c,fun _=>uG,?_⟩
     refine (tv L[jj] kd).c7 ⟨_,rfl,H.n,0,fun _=>⟨rfl,by omega,by omega⟩,K.2 jj,fun _=>?_,?_⟩
     ·unfold AH.ak
      rw [ju.cut]
      simp only
      rw [show 0+((jj:Int)).toNat*1=jj by omega,gj,if_pos (by omega)]
     ·rw [UK]
      have ea:(val L kd jj == val L kd i && !K.2 jj)=alike (val L kd) K.2 i jj:=rfl
      rw [ea]
      cases ha:alike (val L kd) K.2 i jj with
      | true =>
       refine ⟨(((kd,(some (H.n,0),n+1),(q2.map (fun b=>(b,0)),(K.1 ++ done).length)),(K.1.length:Int),(i:Int)),val L kd i,((jj+1:Nat):Int)),n - (jj+1),by omega,?_,jj+1,rfl,rfl,by omega,by omega,by rw [← c3,DG hj ha],rfl⟩
       rw [show IntKind.i64.wrap ((jj:Int)+1)=((jj+1:Nat):Int) by rw [wrap_i64 (by omega) (by omega)];omega]
      | false =>
       have:jj=e:=by rw [← c3,vY hj ha]
       subst this
       exact ⟨_,0,trivial,rfl,rfl,rfl⟩
    ·have d3:decide ((jj:Int)<(n:Int))=false:=by rw [decide_eq_false_iff_not];omega
     have ff:(false == true)=false:=rfl
     simp only [d3,ff,cond_false]
     have:jj=e:=by rw [← c3,zR (by omega)]
     subst this
     refine ⟨0,0,(fun h=>absurd h (by decide)),false,false,false,false,0,(fun h=>absurd h (by decide)),?_⟩
     exact ⟨0,0,(fun h=>absurd h (by decide)),false,(fun h=>absurd h (by decide)),_,0,trivial,rfl,rfl,(by trivial)⟩
   ·rintro _ _ ⟨rfl,rfl⟩
    have ia:=dR (val:=val L kd) (cut:=K.2) (n:=n) (k:=kd) fO
    rw [← he] at ia
    refine ⟨fun x H'=>∃q3 gP,x=((kd,(some (H.n,0),n+1),(q3.map (fun b=>(b,0)),(K.1 ++ gP).length)),(K.1.length:Int),(e:Int))∧gP ++ bB (val L kd) K.2 n kd e=S0∧MZ H H' n K.2 q3 (K.1 ++ gP),⟨?_,?_⟩⟩
    ·by_cases Oq:val L kd i=0
     ·have d4:(val L kd i != 0)=false:=by rw [Oq];rfl
      simp only [d4,cond_false]
      refine ⟨((kd,(some (H.n,0),n+1),(q2.map (fun b=>(b,0)),(K.1 ++ done).length)),(K.1.length:Int),(e:Int)),0,trivial,rfl,q2,done,rfl,?_,ju⟩
      rw [← lA,ia]
      unfold gG
      rw [if_pos Oq];rfl
     ·have d4:(val L kd i != 0)=true:=by rw [bne_iff_ne];exact Oq
      simp only [d4,cond_true]
      obtain ⟨y,hy⟩ : ∃y:av,y=⟨i,e,kd,if kd=5 then val L kd i - 1 else 0⟩:=⟨_,rfl⟩
      have GK:gG (val L kd) kd i e=[y]:=by unfold gG;rw [if_neg Oq,hy]
      refine ⟨rfl,(H2.alloc (.cells [.int .i64 0,.int .i64 0,.int .i64 0,.int .i64 0] 54 { whole:=true })).set H2.n (.cells [.int .i64 (i:Int),.int .i64 (e:Int),.int .i64 kd,.int .i64 0] 54 { whole:=true }),by simp [AH.write,AH.aa,aA,AV.one],?_⟩
      refine ⟨fun x H'=>x=(((kd,(some (H.n,0),n+1),(q2.map (fun b=>(b,0)),(K.1 ++ done).length)),(K.1.length:Int),(e:Int)),H2.n)∧H'.n=H2.n+1∧H'.get H2.n=some (.cells y.cells 54 { whole:=true })∧∀c,c<H2.n→H'.get c=H2.get c,⟨?_,?_⟩⟩
      ·by_cases yX:kd=5
       ·have d5:(kd == (5:Int))=true:=by rw [beq_iff_eq];exact yX
        simp only [d5,cond_true]
        have w2:IntKind.i64.wrap (val L kd i - 1)=val L kd i - 1:=wrap_i64 (by omega) (by omega)
        rw [w2]
        refine ⟨rfl,((H2.alloc (.cells [.int .i64 0,.int .i64 0,.int .i64 0,.int .i64 0] 54 { whole:=true })).set H2.n (.cells [.int .i64 (i:Int),.int .i64 (e:Int),.int .i64 kd,.int .i64 0] 54 { whole:=true })).set H2.n (.cells y.cells 54 { whole:=true }),?_,_,0,trivial,rfl,rfl,rfl,by rw [AH.af,if_pos rfl],fun c hc=>by rw [AH.af,if_neg (by omega),AH.af,if_neg (by omega),AH.aa,if_neg (by omega)]⟩
        rw [hy,if_pos yX]
        unfold AH.write
        rw [AH.af,if_pos rfl]
        simp [aA,AV.one,av.cells]
       ·have d5:(kd == (5:Int))=false:=by rw [beq_eq_false_iff_ne];exact yX
        simp only [d5,cond_false]
        refine ⟨_,0,trivial,rfl,rfl,rfl,by rw [AH.af,if_pos rfl,hy,if_neg yX];rfl,fun c hc=>by rw [AH.af,if_neg (by omega),AH.aa,if_neg (by omega)]⟩
      ·rintro _ H5 ⟨rfl,n5,g5,o5⟩
       have uB:=ju.eA (H2:=H5) (by omega) o5
       obtain ⟨H6,g1,g2,g3,g4⟩:=vj (H:=H5.alloc (.cells y.cells 54 { whole:=true })) (q:=q2) (l:=K.1 ++ done) (y:=y) (c:=H5.n) (fl:={ whole:=true })
        (uB.out.same fun b hb=>by have:=uB.bd b hb;rw [AH.aa,if_neg (by omega)]) (by rw [AH.aa,if_pos rfl]) (by rw [List.length_append];omega)
       have OF:=uB.lt
       have o6 : ∀c,c<H5.n→q2 ≠ some c→H6.get c=H5.get c:=fun c hc hq=>by rw [g4 c (by simp only [AH.az];omega) hq,AH.aa,if_neg (by omega)]
       refine ⟨y.f,y.t,y.k,y.v,by simp [AH.read,g5,av.cells],by decide,_,_,_,H6,g1,((kd,(some (H.n,0),n+1),(some (H5.n+1,0),(K.1 ++ (done ++ [y])).length)),(K.1.length:Int),(e:Int)),0,trivial,?_,some (H5.n+1),done ++ [y],rfl,?_,?_⟩
       ·rw [← List.append_assoc];rfl
       ·rw [← lA,ia,GK,List.append_assoc]
       ·rw [← List.append_assoc]
        refine ⟨fun c hc=>?_,?_,by rw [g2];simp only [AH.az];omega,g3,fun c hc=>?_⟩
        ·rw [o6 c (by omega) (fun e=>by have:=uB.bd c e;omega)];exact uB.old c hc
        ·rw [o6 _ OF (fun e=>by have:=uB.bd _ e;omega)];exact uB.cut
        ·cases hc;rw [g2];simp only [AH.az];omega
    ·rintro _ H6 ⟨q3,gP,rfl,Lv,QW⟩
     exact ⟨((kd,(some (H.n,0),n+1),(q3.map (fun b=>(b,0)),(K.1 ++ gP).length)),(K.1.length:Int),(e:Int)),n - e,by omega,rfl,e,gP,q3,rfl,Vp.2,Lv,QW,rfl⟩
  ·have d2:decide ((i:Int)<(n:Int))=false:=by rw [decide_eq_false_iff_not];omega
   simp only [d2,cond_false]
   obtain rfl:n=i:=by omega
   rw [dS (Nat.le_refl _),List.append_nil] at lA
   have LJ:ax L (k+1)=(K.1 ++ done,eW K.2 done):=by
    show ((ax L k).1 ++ bB (val L (k+1:Nat)) (ax L k).2 L.length (k+1:Nat) 0,eW (ax L k).2 (bB (val L (k+1:Nat)) (ax L k).2 L.length (k+1:Nat) 0))=_
    rw [← hK,← hn,← Nc,← Je,lA]
   have Vz : ∀x ∈ done,∃a b:Nat,x.f=a∧x.t=b∧a≤n∧b≤n:=by
    intro x hx
    rw [lA,Je] at hx
    obtain ⟨a,b,g1,g2,g3,g4,g5,_⟩:=iJ (n - 0) rfl x hx
    exact ⟨a,b,g1,g2,by omega,g5⟩
   obtain ⟨sb,IW,iu⟩ : ∃sb,bZ Tryz.prog H2 22 (.slice (q2.map fun b=>(b,0)) (K.1 ++ done).length (K.1 ++ done).length) (some (.int .i64 (K.1.length:Int))) none none=some (.slice sb done.length done.length) ∧
     ∀ {H' : AH} {r:Nat},(∀b,q2=some b→H'.get b=H2.get b)→(h:r<done.length)→∃b o,sb=some (b,o)∧H'.read b (o+r*4) 4=some done[r].cells:=by
    have t1:Tryz.prog.underlying 22=some (.slice 54):=by kernel_rfl
    have t2:bY Tryz.prog 54=some 4:=by kernel_rfl
    have sF:=ju.out
    cases q2 with
    | none =>
     have h0:K.1 ++ done=[]:=List.length_eq_zero_iff.1 sF.1
     obtain ⟨h1,h2⟩:=List.append_eq_nil_iff.1 h0
     refine ⟨none,?_,fun _ h=>by rw [h2] at h;cases h⟩
     rw [h1,h2]
     simp [bZ,t1,t2,eS]
    | some b =>
     have hb:H2.get b=some (.cells (flat av.cells (K.1 ++ done)) 54 { fD:=true }):=sF
     refine ⟨some (b,0+K.1.length*4),?_,fun {H' r} ho h=>⟨b,_,rfl,?_⟩⟩
     ·have fU:H2.steps Tryz.prog b 4=true:=by unfold AH.steps;rw [hb];simp [t2]
      simp only [bZ,t1,t2,eS,Option.map_some,Option.bind_some,fU,or_true,if_true]
      rw [if_pos (by omega)]
      simp only [Option.bind_some]
      rw [if_pos ⟨by rw [List.length_append];omega,Nat.le_refl _,Nat.le_refl _,fun h=>by cases h⟩]
      rw [List.length_append]
      simp
     ·have:=cH av.ay (H:=H') (b:=b) (i:=K.1.length+r) (by rw [ho b rfl];exact hb) (by rw [List.length_append];omega)
      rw [show 0+K.1.length*4+r*4=0+(K.1.length+r)*4 by omega,this,List.getElem_append_right (by omega)]
      simp
   refine ⟨sb,done.length,done.length,IW,?_⟩
   refine ⟨fun x H' j=>∃r:Nat,x=((kd,(some (H.n,0),n+1),(q2.map (fun b=>(b,0)),(K.1 ++ done).length)),(sb,done.length,done.length),(done.length:Int),(r:Int))∧r≤done.length∧MZ H H' n (eW K.2 (done.take r)) q2 (K.1 ++ done) ∧
     (∀b,q2=some b→H'.get b=H2.get b)∧j=done.length - r,⟨((kd,(some (H.n,0),n+1),(q2.map (fun b=>(b,0)),(K.1 ++ done).length)),(sb,done.length,done.length),(done.length:Int),0),done.length,rfl,0,rfl,Nat.zero_le _,?_,fun b _=>rfl,rfl⟩,?_⟩
   ·refine ⟨ju.old,?_,ju.lt,ju.out,ju.bd⟩
    rw [ju.cut,iz (c:=K.2)]
    intro j _
    simp [eW]
   rintro _ H3 j3 ⟨r,rfl,hr,m7,Xw,rfl⟩
   by_cases BT:r<done.length
   ·have d6:decide ((r:Int)<(done.length:Int))=true:=by rw [decide_eq_true_iff];omega
    simp only [d6,cond_true]
    obtain ⟨b,o,rfl,UX⟩:=iu Xw BT
    obtain ⟨a,z,ha,iE,J9,Om⟩:=Vz _ (List.getElem_mem BT)
    have Rv:=m7.lt
    obtain ⟨A1,qG⟩ : ∃A1,A1=(H3.alloc (.cells [.int .i64 0,.int .i64 0,.int .i64 0,.int .i64 0] 54 { whole:=true })).set H3.n (.cells done[r].cells 54 { whole:=true }):=⟨_,rfl⟩
    have Gy : ∀c,c<H3.n→A1.get c=H3.get c:=fun c hc=>by rw [qG,AH.af,if_neg (by omega),AH.aa,if_neg (by omega)]
    have Nz:A1.get H3.n=some (.cells done[r].cells 54 { whole:=true }):=by rw [qG,AH.af,if_pos rfl]
    have a1c:A1.get H.n=some (.cells (di (eW K.2 (done.take r)) n) 4 {}):=by rw [Gy _ Rv];exact m7.cut
    obtain ⟨A2,vO⟩ : ∃A2,A2=A1.set H.n (.cells (di (fun j=>eW K.2 (done.take r) j || j == a) n) 4 {}):=⟨_,rfl⟩
    have Wf:A2.get H.n=some (.cells (di (fun j=>eW K.2 (done.take r) j || j == a) n) 4 {}):=by rw [vO,AH.af,if_pos rfl]
    have Dw : ∀c,c ≠ H.n→A2.get c=A1.get c:=fun c hc=>by rw [vO,AH.af,if_neg hc]
    refine ⟨b,o,⟨rfl,by omega,by omega⟩,_,_,_,_,UX,rfl,A1,?_,done[r].f,?_,done[r].t,?_,H.n,0,⟨rfl,by omega,by omega⟩,trivial,A2,?_,⟨done[r].t,?_,rfl⟩,H.n,0,⟨rfl,by omega,by omega⟩,trivial,
     A2.set H.n (.cells (di (fun j=>(eW K.2 (done.take r) j || j == a) || j == z) n) 4 {}),?_,((kd,(some (H.n,0),n+1),(q2.map (fun b=>(b,0)),(K.1 ++ done).length)),(some (b,o),done.length,done.length),(done.length:Int),((r+1:Nat):Int)),done.length - (r+1),by omega,?_,r+1,rfl,by omega,?_,fun c hc=>?_,rfl⟩
    ·rw [qG];simp [AH.write,AH.aa,aA,AV.one,av.cells]
    ·simp [AH.ak,Nz,av.cells]
    ·simp [AH.ak,Nz,av.cells]
    ·unfold AH.write
     rw [a1c,ha]
     simp only
     rw [if_pos ⟨trivial,Nat.zero_le _,by rw [dA];simp only [List.length_cons,List.length_nil];omega,by simp [AV.one]⟩,show 0+((a:Int)).toNat*1=a by omega,lf J9,vO]
    ·unfold AH.ak;rw [Dw _ (by omega),Nz];simp [av.cells]
    ·unfold AH.write
     rw [Wf,iE]
     simp only
     rw [if_pos ⟨trivial,Nat.zero_le _,by rw [dA];simp only [List.length_cons,List.length_nil];omega,by simp [AV.one]⟩,show 0+((z:Int)).toNat*1=z by omega,lf Om]
    ·rw [wrap_i64 (by omega) (by omega)];rfl
    ·refine ⟨fun c hc=>?_,?_,?_,?_,?_⟩
     ·rw [AH.af,if_neg (by omega),Dw _ (by omega),Gy _ (by omega)];exact m7.old c hc
     ·rw [AH.af,if_pos rfl,iz]
      intro j _
      rw [List.take_succ_eq_append_getElem BT]
      unfold eW
      rw [List.any_append]
      simp only [List.any_cons,List.any_nil,Bool.or_false,ha,iE]
      have x1:((a:Int) == (j:Int))=(j == a):=by rw [Bool.eq_iff_iff,beq_iff_eq,beq_iff_eq];omega
      have x2:((z:Int) == (j:Int))=(j == z):=by rw [Bool.eq_iff_iff,beq_iff_eq,beq_iff_eq];omega
      rw [x1,x2]
      simp only [Bool.or_assoc]
     ·simp only [AH.bq,vO,qG,AH.az];omega
     ·refine m7.out.same fun c hc=>?_
      have:=m7.bd c hc
      rw [AH.af,if_neg (by omega),Dw _ (by omega),Gy _ (by omega)]
     ·intro c hc
      have:=m7.bd c hc
      simp only [AH.bq,vO,qG,AH.az];omega
    ·have:=m7.bd c hc
     rw [AH.af,if_neg (by omega),Dw _ (by omega),Gy _ (by omega)];exact Xw c hc
   ·have d6:decide ((r:Int)<(done.length:Int))=false:=by rw [decide_eq_false_iff_not];omega
    simp only [d6,cond_false]
    obtain rfl:r=done.length:=by omega
    rw [List.take_length] at m7
    refine ⟨((((k+1+1:Nat)):Int),(some (H.n,0),n+1),(q2.map (fun b=>(b,0)),(K.1 ++ done).length)),5 - (k+1),by omega,?_,k+1,q2,by omega,?_,?_,rfl⟩
    ·rw [wrap_i64 (by omega) (by omega),Nc];rfl
    ·rw [LJ]
    ·rw [LJ];exact m7
 ·have d1:decide (((k+1:Nat):Int)≤5)=false:=by rw [decide_eq_false_iff_not];omega
  simp only [d1,cond_false]
  obtain rfl:k=5:=by omega
  have cu:=hz.lt
  refine (hs.2 H1 qo hz.out (fun c hc=>(hz.bd c hc).2)).mono ?_
  rintro v H2 ⟨rfl,g1,g2,g3⟩
  refine ⟨qo,?_,g1,fun c hc=>by have:=hz.bd c hc;omega,by omega,fun c hc=>?_⟩
  ·unfold sl;rw [hs.1];rfl
  ·rw [g3 c (by omega) (fun e=>by have:=hz.bd c e;omega)];exact hz.old c hc
end Go.Proofs.YtlkdhhkncoekgaaGreatDoor
end
/- A text of runs: its spans are those of how its signs look. -/
section
namespace Go.Proofs.YtlkdhhkncoekgaaGreatDoor
open Go.Am Go
def jB (H:AH) (e:Int) (s:List UInt8) (sp:List av) (v:AV) (H' : AH):Prop :=
 ∃q,v=.tuple [.agg [.str s,sl q sp.length],.int .i64 e]∧bQ H' q sp.length (flat av.cells sp) 54∧(∀c,q=some c→H.n≤c∧c<H'.n)∧H.n≤H'.n∧∀c,c<H.n→H'.get c=H.get c
def Jr (so:List av):Int:=bif decide (256<so.length) then 2 else 0
def Ci (so:List av) (s:List UInt8):List UInt8:=bif decide (256<so.length) then [] else s
def lS (so:List av):List av:=bif decide (256<so.length) then [] else so
theorem ki {so:List av} (h:so.length≤256) (s:List UInt8):Jr so=0∧Ci so s=s∧lS so=so:=by
 have:decide (256<so.length)=false:=by rw [decide_eq_false_iff_not];omega
 unfold Jr Ci lS
 rw [this];exact ⟨rfl,rfl,rfl⟩
theorem kQ {so:List av} (h:256<so.length) (s:List UInt8):Jr so=2∧Ci so s=[]∧lS so=[]:=by
 have:decide (256<so.length)=true:=by rw [decide_eq_true_iff];exact h
 unfold Jr Ci lS
 rw [this];exact ⟨rfl,rfl,rfl⟩
theorem NQ (s:List UInt8) (L:List aj) (hL:L.length≤4096) (hc : ∀a ∈ L,0≤a.c∧a.c≤16777216) {so:List av} (hs:xD (bt L) so) {H:AH} {q:Option Nat} (hq:jE H q L) :
  aD Tryz.prog 106 [.str s,sl q L.length] H (jB H (Jr so) (Ci so s) (lS so)):=by
 refine .inl ⟨aB (by kernel_rfl),c6 (aS:=[]) aq ?_⟩
 show fG _ _ _ _ [.str s,.slice (q.map fun b=>(b,0)) L.length L.length] _ _
 rw [Ku]
 simp only [bu,aU,aP,aF,bU]
 have uH:jE (H.alloc (.cells [.str [],.slice none 0 0] 24 { whole:=true })) q L:=by
  cases q with
  | none=>exact hq
  | some b=>obtain ⟨h1,fl,h2⟩:=hq;exact ⟨by simp only [AH.az];omega,fl,by rw [AH.aa,if_neg (by omega)];exact h2⟩
 refine (Ob L hL hc hs uH).mono ?_
 rintro v H1 ⟨q1,rfl,g1,g2,g3,g4⟩
 simp only [AH.az] at g2 g3 g4
 have g0:H1.get H.n=some (.cells [.str [],.slice none 0 0] 24 { whole:=true }):=by rw [g4 _ (by omega),AH.aa,if_pos rfl]
 refine ⟨_,_,_,rfl,?_⟩
 rcases Nat.lt_or_ge 256 so.length with y6 | y6
 ·have d:decide ((so.length:Int) > 256)=true:=by rw [decide_eq_true_iff];omega
  obtain ⟨m1,m2,m3⟩:=kQ y6 s
  rw [m1,m2,m3]
  simp only [d,cond_true]
  refine ⟨rfl,H1.set H.n (.cells [.str [],.slice none 0 0] 24 { whole:=true }),by simp [AH.write,g0,aA,AV.one],[],_,_,_,by simp [AH.read,AH.af],none,rfl,⟨rfl,rfl⟩,(fun c hc=>by cases hc),?_,fun c hc=>?_⟩
  ·simp only [AH.bq];omega
  ·rw [AH.af,if_neg (by omega),g4 c (by omega),AH.aa,if_neg (by omega)]
 ·have d:decide ((so.length:Int) > 256)=false:=by rw [decide_eq_false_iff_not];omega
  obtain ⟨m1,m2,m3⟩:=ki y6 s
  rw [m1,m2,m3]
  simp only [d,cond_false]
  refine ⟨rfl,H1.set H.n (.cells [.str s,.slice (q1.map fun b=>(b,0)) so.length so.length] 24 { whole:=true }),by simp [AH.write,g0,aA,AV.one],s,_,_,_,by simp [AH.read,AH.af],q1,rfl,?_,fun c hc=>?_,?_,fun c hc=>?_⟩
  ·exact g1.same fun b hb=>by have:=g2 b hb;rw [AH.af,if_neg (by omega)]
  ·have:=g2 c hc;simp only [AH.bq];omega
  ·simp only [AH.bq];omega
  ·rw [AH.af,if_neg (by omega),g4 c (by omega),AH.aa,if_neg (by omega)]
structure Rn where
 f:Nat
 t:Nat
 a:aj
def Rn.cells (r:Rn):List AV:=[.int .i64 (r.f:Int),.int .i64 (r.t:Int),.bool r.a.b,.bool r.a.i,.bool r.a.u,.bool r.a.k,.int .i64 r.a.c]
theorem Rn.ay (r:Rn):r.cells.length=7:=rfl
theorem Rn.dz (r:Rn):r.cells.all AV.one=true:=by simp [Rn.cells,AV.one]
def gq:Nat→List Rn→Nat→Prop
 | a,[],b=>a=b
 | a,r :: rs,b=>r.f=a∧a<r.t∧gq r.t rs b
def expand:List Rn→List aj
 | []=>[]
 | r :: rs=>List.replicate (r.t - r.f) r.a ++ expand rs
theorem eX : ∀ {rs ss:List Rn} {a b:Nat},gq a (rs ++ ss) b↔∃m,gq a rs m∧gq m ss b
 | [],ss,a,b=>by simp [gq]
 | r :: rs,ss,a,b=>by
  simp only [List.cons_append,gq,eX (rs:=rs)]
  constructor
  ·rintro ⟨h1,h2,m,h3,h4⟩;exact ⟨m,⟨h1,h2,h3⟩,h4⟩
  ·rintro ⟨m,⟨h1,h2,h3⟩,h4⟩;exact ⟨h1,h2,m,h3,h4⟩
theorem eT : ∀(rs ss:List Rn),expand (rs ++ ss)=expand rs ++ expand ss
 | [],ss=>rfl
 | r :: rs,ss=>by simp only [List.cons_append,expand,eT rs ss,List.append_assoc]
theorem jP : ∀ {rs:List Rn} {a b:Nat},gq a rs b→a+(expand rs).length=b
 | [],a,b,h=>by simpa [expand,gq] using h
 | r :: rs,a,b,⟨h1,h2,h3⟩=>by
  have:=jP h3
  simp only [expand,List.length_append,List.length_replicate];omega
theorem nj : ∀ {rs:List Rn} {a b:Nat},gq a rs b→a+rs.length≤b
 | [],a,b,h=>by simp only [gq] at h;simp;omega
 | r :: rs,a,b,⟨h1,h2,h3⟩=>by
  have:=nj h3
  simp only [List.length_cons];omega
theorem Gi {rs:List Rn} {b i:Nat} (h:gq 0 rs b) (hi:i<rs.length):rs[i].f=(expand (rs.take i)).length∧rs[i].f<rs[i].t∧rs[i].t≤b∧expand (rs.take (i+1))=expand (rs.take i) ++ List.replicate (rs[i].t - rs[i].f) rs[i].a:=by
 have e:rs=rs.take i ++ rs[i] :: rs.drop (i+1):=by rw [← List.drop_eq_getElem_cons hi,List.take_append_drop]
 have h':=h
 rw [e] at h'
 obtain ⟨m,h1,h2,h3,h4⟩:=eX.1 h'
 have h5:=jP h1
 have h6:=nj h4
 refine ⟨by omega,by omega,by omega,?_⟩
 rw [List.take_succ_eq_append_getElem hi,eT]
 simp [expand]
def JO (H:AH) (q:Option Nat) (rs:List Rn):Prop :=
 match q with
 | none=>rs=[]
 | some b=>b<H.n∧∃fl,H.get b=some (.cells (flat Rn.cells rs) 114 fl)
theorem r9 {H:AH} {q:Option Nat} {l:List aj} {y:aj} {c:Nat} {fl:Fl} (hl:bQ H q l.length (flat aj.cells l) 63) (hc:H.get c=some (.cells y.cells 63 fl)) (hm:l.length≤4096) :
  ∃H',bV Tryz.prog H 83 83 (sl q l.length) (.slice (some (c,0)) 1 1)=some (sl (some H.n) (l ++ [y]).length,H')∧H'.n=H.n+1∧bQ H' (some H.n) (l ++ [y]).length (flat aj.cells (l ++ [y])) 63∧∀c,c<H.n→q ≠ some c→H'.get c=H.get c :=
 gl (nA:=16) (s:=5) (z:=.agg aI.cells) (by kernel_rfl) (by kernel_rfl) (by kernel_rfl) (by kernel_rfl) rfl (by decide) aj.ay aj.dz hl hc (by omega)
set_option maxRecDepth 100000 in
theorem Pm (s:List UInt8) (n:Nat) (Rh:aE s n) (hl:s.length≤4096) (rs:List Rn) (hr:gq 0 rs n) (hc : ∀r ∈ rs,0≤r.a.c∧r.a.c≤16777216) {so:List av} (hs:xD (bt (expand rs)) so) {H:AH} {q:Option Nat} (hq:JO H q rs) :
  aD Tryz.prog 63 [.str s,sl q rs.length] H (jB H (Jr so) (Ci so s) (lS so)):=by
 have hn:n≤4096:=by have:=dr Rh.2;have:=Rh.1;omega
 have Vo:(expand rs).length=n:=by have:=jP hr;omega
 have BT:rs.length≤n:=by have:=nj hr;omega
 refine .inl ⟨aB (by kernel_rfl),bP (aS:=_) (c9:=_) aq (Eq.mpr (Mw (real Tryz.prog) (Iter Tryz.prog) s (q.map fun b=>(b,0)) rs.length H (jB H (Jr so) (Ci so s) (lS so))) ?_)⟩
 simp only [bu,aU,aQ,aP,aF,bU,aK,eR]
 have J7 : ¬ ((s.length:Int) > 4096):=by omega
 simp only [J7,decide_false,cond_false]
 refine (oI s n Rh (by omega)).c7 ⟨n,rfl,?_⟩
 obtain ⟨Z,hZ⟩ : ∃Z:AH→Prop,Z=fun H'=>(∀c,c<H.n→H'.get c=H.get c)∧H'.get H.n=some (.cells [.str [],.slice none 0 0] 24 { whole:=true })∧H.n<H'.n:=⟨_,rfl⟩
 have rd : ∀ {H' : AH} {i:Nat},Z H'→(h:i<rs.length)→∃b,q=some b∧H'.read b (0+i*7) 7=some rs[i].cells:=by
  intro H' i hz hi
  rw [hZ] at hz
  cases q with
  | none=>rw [show rs=[] from hq] at hi;cases hi
  | some b =>
   obtain ⟨h1,fl,h2⟩:=hq
   exact ⟨b,rfl,cH Rn.ay (by rw [hz.1 b h1];exact h2) hi⟩
 refine ⟨fun x H' j=>Z H'∧∃(i:Nat) (qa:Option Nat),x=((i:Int),(n:Int),(qa.map (fun b=>(b,0)),(expand (rs.take i)).length))∧i≤rs.length∧bQ H' qa (expand (rs.take i)).length (flat aj.cells (expand (rs.take i))) 63∧(∀b,qa=some b→H.n<b∧b<H'.n)∧j=rs.length - i,
  ⟨(0,(n:Int),(none,0)),rs.length,rfl,?_,0,none,rfl,Nat.zero_le _,⟨rfl,rfl⟩,(fun b h=>by cases h),rfl⟩,?_⟩
 ·rw [hZ]
  refine ⟨fun c hc=>by rw [AH.aa,if_neg (by omega)],by rw [AH.aa,if_pos rfl],by simp⟩
 rintro _ H1 j1 ⟨hz,i,qa,rfl,hi,hL,qD,rfl⟩
 by_cases Tp:i<rs.length
 ·have d1:decide ((i:Int)<(rs.length:Int))=true:=by rw [decide_eq_true_iff];omega
  simp only [d1,cond_true]
  obtain ⟨b,rfl,iu⟩:=rd hz Tp
  obtain ⟨c1,c2,c3,c4⟩:=Gi hr Tp
  obtain ⟨cc1,cc2⟩:=hc _ (List.getElem_mem Tp)
  obtain ⟨r,UZ⟩ : ∃r,r=rs[i]:=⟨_,rfl⟩
  rw [← UZ] at c1 c2 c3 c4 cc1 cc2 iu
  obtain ⟨A1,qG⟩ : ∃A1,A1=(H1.alloc (.cells [.int .i64 0,.int .i64 0,.bool false,.bool false,.bool false,.bool false,.int .i64 0] 114 { whole:=true })).set H1.n (.cells r.cells 114 { whole:=true }):=⟨_,rfl⟩
  have Nz:A1.get H1.n=some (.cells r.cells 114 { whole:=true }):=by rw [qG,AH.af,if_pos rfl]
  have Gy : ∀c,c<H1.n→A1.get c=H1.get c:=fun c hc=>by rw [qG,AH.af,if_neg (by omega),AH.aa,if_neg (by omega)]
  have a1n:A1.n=H1.n+1:=by rw [qG];rfl
  have iE:=hz
  rw [hZ] at iE
  obtain ⟨z1,z2,z3⟩:=iE
  have r0:A1.ak H1.n 0=some (.int .i64 (r.f:Int)):=by simp [AH.ak,Nz,Rn.cells]
  have r1:A1.ak H1.n 1=some (.int .i64 (r.t:Int)):=by simp [AH.ak,Nz,Rn.cells]
  have r6:A1.ak H1.n 6=some (.int .i64 r.a.c):=by simp [AH.ak,Nz,Rn.cells]
  refine ⟨b,0,⟨rfl,by omega,by omega⟩,_,_,_,_,_,_,_,iu,rfl,A1,by rw [qG];simp [AH.write,AH.aa,aA,AV.one,Rn.cells],_,r0,_,r1,_,r0,_,r1,_,r6,_,r6,?_⟩
  have c1' : ((r.f:Int) != ((expand (rs.take i)).length:Int) || decide ((r.t:Int)≤(r.f:Int)) || decide ((r.t:Int) > (n:Int)) || decide (r.a.c<0) || decide (r.a.c > 16777216))=false:=by
   have x1:((r.f:Int) != ((expand (rs.take i)).length:Int))=false:=by rw [c1];simp
   have x2:decide ((r.t:Int)≤(r.f:Int))=false:=by rw [decide_eq_false_iff_not];omega
   have x3:decide ((r.t:Int) > (n:Int))=false:=by rw [decide_eq_false_iff_not];omega
   have x4:decide (r.a.c<0)=false:=by rw [decide_eq_false_iff_not];omega
   have x5:decide (r.a.c > 16777216)=false:=by rw [decide_eq_false_iff_not];omega
   rw [x1,x2,x3,x4,x5];rfl
  simp only [c1',cond_false]
  refine ⟨_,r1,_,r0,?_⟩
  have w1:IntKind.i64.wrap ((r.t:Int) - (r.f:Int))=((r.t - r.f:Nat):Int):=by rw [wrap_i64 (by omega) (by omega)];omega
  rw [w1]
  refine ⟨fun x H' j=>Z H'∧∃(m:Nat) (qb:Option Nat),x=((i:Int),(n:Int),(qb.map (fun b=>(b,0)),(expand (rs.take i) ++ List.replicate m r.a).length),H1.n,((r.t - r.f:Nat):Int),(m:Int))∧m≤r.t - r.f ∧
    bQ H' qb (expand (rs.take i) ++ List.replicate m r.a).length (flat aj.cells (expand (rs.take i) ++ List.replicate m r.a)) 63∧H'.get H1.n=some (.cells r.cells 114 { whole:=true })∧H1.n<H'.n∧(∀b,qb=some b→H.n<b∧b ≠ H1.n∧b<H'.n)∧j=r.t - r.f - m,
   ⟨((i:Int),(n:Int),(qa.map (fun b=>(b,0)),(expand (rs.take i)).length),H1.n,((r.t - r.f:Nat):Int),0),r.t - r.f,rfl,?_,0,qa,?_,Nat.zero_le _,?_,Nz,by omega,fun b hb=>by have:=qD b hb;omega,rfl⟩,?_⟩
  ·rw [hZ];exact ⟨fun c hc=>by rw [Gy c (by omega)];exact z1 c hc,by rw [Gy _ z3];exact z2,by omega⟩
  ·simp only [List.replicate_zero,List.append_nil];rfl
  ·simp only [List.replicate_zero,List.append_nil];exact hL.same fun b hb=>Gy b (qD b hb).2
  rintro _ H2 j2 ⟨ju,m,qb,rfl,hm,R8,Tt,OG,OA,rfl⟩
  have IQ:=ju
  rw [hZ] at IQ
  obtain ⟨y1,y2,y3⟩:=IQ
  by_cases F1:m<r.t - r.f
  ·have d2:decide ((m:Int)<((r.t - r.f:Nat):Int))=true:=by rw [decide_eq_true_iff];omega
   simp only [d2,cond_true]
   have hlen:(expand (rs.take i) ++ List.replicate m r.a).length≤4096:=by rw [List.length_append,List.length_replicate];omega
   obtain ⟨H3,g1,g2,g3,g4⟩:=r9 (H:=H2.alloc (.cells r.a.cells 63 { whole:=true })) (q:=qb) (l:=expand (rs.take i) ++ List.replicate m r.a) (y:=r.a) (c:=H2.n) (fl:={ whole:=true })
    (R8.same fun b hb=>by have:=OA b hb;rw [AH.aa,if_neg (by omega)]) (by rw [AH.aa,if_pos rfl]) hlen
   have o3 : ∀c,c<H2.n→qb ≠ some c→H3.get c=H2.get c:=fun c hc hq=>by rw [g4 c (by simp only [AH.az];omega) hq,AH.aa,if_neg (by omega)]
   have ea:expand (rs.take i) ++ List.replicate m r.a ++ [r.a]=expand (rs.take i) ++ List.replicate (m+1) r.a:=by rw [List.append_assoc,← List.replicate_succ']
   rw [ea] at g1 g3
   refine ⟨_,_,_,_,_,by simp [AH.read,Tt,Rn.cells],by decide,_,_,_,H3,g1,((i:Int),(n:Int),(some (H2.n+1,0),(expand (rs.take i) ++ List.replicate (m+1) r.a).length),H1.n,((r.t - r.f:Nat):Int),((m+1:Nat):Int)),r.t - r.f - (m+1),by omega,?_,?_,m+1,some (H2.n+1),rfl,by omega,g3,?_,?_,?_,rfl⟩
   ·rw [wrap_i64 (by omega) (by omega)];rfl
   ·rw [hZ]
    exact ⟨fun c hc=>by rw [o3 c (by omega) (fun e=>by have:=OA c e;omega)];exact y1 c hc,by rw [o3 _ y3 (fun e=>by have:=OA _ e;omega)];exact y2,by rw [g2];simp only [AH.az];omega⟩
   ·rw [o3 _ OG (fun e=>(OA _ e).2.1 rfl)];exact Tt
   ·rw [g2];simp only [AH.az];omega
   ·intro b hb;cases hb;rw [g2];simp only [AH.az];omega
  ·have d2:decide ((m:Int)<((r.t - r.f:Nat):Int))=false:=by rw [decide_eq_false_iff_not];omega
   simp only [d2,cond_false]
   obtain rfl:m=r.t - r.f:=by omega
   rw [← c4] at R8
   refine ⟨(((i+1:Nat):Int),(n:Int),(qb.map (fun b=>(b,0)),(expand (rs.take (i+1))).length)),rs.length - (i+1),by omega,?_,ju,i+1,qb,rfl,by omega,R8,fun b hb=>by have:=OA b hb;omega,rfl⟩
   rw [wrap_i64 (by omega) (by omega),c4];rfl
 ·have d1:decide ((i:Int)<(rs.length:Int))=false:=by rw [decide_eq_false_iff_not];omega
  simp only [d1,cond_false]
  obtain rfl:i=rs.length:=by omega
  rw [List.take_length] at hL ⊢
  rw [Vo]
  have dm:((n:Int) != (n:Int))=false:=by simp
  simp only [dm,cond_false]
  rw [hZ] at hz
  obtain ⟨z1,z2,z3⟩:=hz
  have X8:jE H1 qa (expand rs):=by
   cases qa with
   | none=>exact List.length_eq_zero_iff.1 hL.1
   | some b=>exact ⟨(qD b rfl).2,_,hL⟩
  have pO : ∀a ∈ expand rs,0≤a.c∧a.c≤16777216:=by
   clear hs hq hr Vo BT hL X8 hi rd d1 Tp
   intro a ha
   induction rs with
   | nil=>cases ha
   | cons r rs ih =>
    simp only [expand] at ha
    rcases List.mem_append.1 ha with h | h
    ·rw [List.eq_of_mem_replicate h];exact hc r (List.mem_cons_self ..)
    ·exact ih (fun r hr=>hc r (List.mem_cons_of_mem _ hr)) h
  have ht:=NQ s (expand rs) (by omega) pO hs X8
  rw [Vo] at ht
  refine ht.mono ?_
  rintro v H2 ⟨q2,rfl,g1,g2,g3,g4⟩
  have g0:H2.get H.n=some (.cells [.str [],.slice none 0 0] 24 { whole:=true }):=by rw [g4 _ z3];exact z2
  refine ⟨_,_,_,_,_,rfl,rfl,H2.set H.n (.cells [.str (Ci so s),.slice (q2.map fun b=>(b,0)) (lS so).length (lS so).length] 24 { whole:=true }),by simp [AH.write,g0,aA,AV.one],Ci so s,_,_,_,by simp [AH.read,AH.af],q2,rfl,?_,fun c hc=>?_,?_,fun c hc=>?_⟩
  ·exact g1.same fun b hb=>by have:=g2 b hb;rw [AH.af,if_neg (by omega)]
  ·have:=g2 c hc;simp only [AH.bq];omega
  ·simp only [AH.bq];omega
  ·rw [AH.af,if_neg (by omega),g4 c (by omega)];exact z1 c hc
end Go.Proofs.YtlkdhhkncoekgaaGreatDoor
end
/- mark.laid: pieces behind one another, as a text; its spans are those of how the pieces look. -/
section
namespace Go.Proofs.YtlkdhhkncoekgaaGreatDoor
open Go.Am Go
theorem iL {α:Type} {f:α→List AV} {w:Nat} (hf : ∀x,(f x).length=w) {H:AH} {b i k m:Nat} {l:List α} {e:TypeId} {fl:Fl} (h:H.get b=some (.cells (flat f l) e fl)) (hi:i<l.length) (hk:k+m≤w) :
  H.read b (0+i*w+k) m=some (((f l[i]).drop k).take m):=by
 unfold AH.read
 rw [h]
 have:=le_mul (w:=w) hi
 simp only [Nat.zero_add]
 rw [if_pos (by rw [bS hf];omega),← zb hf hi,List.drop_take,List.take_take,Nat.min_eq_left (by omega),List.drop_drop]
theorem Gt {H:AH} {q:Option Nat} {l:List Rn} {y:Rn} {c:Nat} {fl:Fl} (hl:bQ H q l.length (flat Rn.cells l) 114) (hc:H.get c=some (.cells y.cells 114 fl)) (hm:l.length≤8192) :
  ∃H',bV Tryz.prog H 112 112 (sl q l.length) (.slice (some (c,0)) 1 1)=some (sl (some H.n) (l ++ [y]).length,H')∧H'.n=H.n+1∧bQ H' (some H.n) (l ++ [y]).length (flat Rn.cells (l ++ [y])) 114∧∀c,c<H.n→q ≠ some c→H'.get c=H.get c :=
 gl (nA:=32) (s:=7) (z:=.agg (Qk 0)) (by kernel_rfl) (by kernel_rfl) (by kernel_rfl) (by kernel_rfl) rfl (by decide) Rn.ay Rn.dz hl hc (by omega)
theorem Gp {H:AH} {q:Option Nat} {so:List UInt8} (hl:bQ H q so.length (aC so) 5):nr H (.slice (q.map (fun b=>(b,0))) so.length so.length)=some so:=by
 cases q with
 | none =>
  have:so=[]:=List.length_eq_zero_iff.1 hl.1
  rw [this];rfl
 | some c =>
  have hc:H.get c=some (.cells (aC so) 5 { fD:=true }):=hl
  have:(aC so).length=so.length:=by unfold aC;rw [List.length_map]
  simp only [nr,Option.map_some,AH.read,hc,Nat.zero_add,this,Nat.le_refl,if_true,List.drop_zero,Option.bind_some]
  rw [List.take_of_length_le (by omega)];exact va _
def gT (ps:List (List UInt8×aj)) (i:Nat):List UInt8:=((ps.take i).map Prod.fst).flatten
theorem Gq {ps:List (List UInt8×aj)} {i:Nat} (h:i<ps.length):gT ps (i+1)=gT ps i ++ ps[i].1:=by
 unfold gT
 rw [List.take_succ_eq_append_getElem h,List.map_append,List.flatten_append]
 simp
theorem Mm (ps:List (List UInt8×aj)) (i:Nat):(gT ps i).length≤((ps.map Prod.fst).flatten).length:=by
 unfold gT
 conv=>rhs;rw [← List.take_append_drop i ps,List.map_append,List.flatten_append,List.length_append]
 omega
theorem BC (ps:List (List UInt8×aj)):gT ps ps.length=(ps.map Prod.fst).flatten:=by unfold gT;rw [List.take_length]
def p8 (H:AH) (s:List UInt8) (so:List av) (v:AV) (H' : AH):Prop :=
 bif decide (s.length≤4096) then jB H (Jr so) (Ci so s) (lS so) v H' else jB H 3 [] [] v H'
set_option maxRecDepth 100000 in
theorem Og (ps:List (List UInt8×aj)) (dm : ∀p ∈ ps,p.1 ≠ []) (hl:((ps.map Prod.fst).flatten).length≤16000) (hk:ps.length≤8000) (Rh:aE (ps.map Prod.fst).flatten ps.length) (hc : ∀p ∈ ps,0≤p.2.c∧p.2.c≤16777216)
  {so:List av} (hs:xD (bt (ps.map Prod.snd)) so) {H:AH} {q:Option Nat} (cp:Nat) (ZQ : ∀i (h:i<ps.length),∃b,q=some b∧b<H.n∧∀K:AH,K.get b=H.get b→K.read b (0+i*6) 6=some (bz ps[i])) :
  aD Tryz.prog 28 [.slice (q.map fun b=>(b,0)) ps.length cp] H (p8 H (ps.map Prod.fst).flatten so):=by
 obtain ⟨Z,hZ⟩ : ∃Z:AH→Prop,Z=fun H'=>(∀c,c<H.n→H'.get c=H.get c)∧H'.get H.n=some (.cells [.str [],.slice none 0 0] 24 { whole:=true })∧H.n<H'.n:=⟨_,rfl⟩
 obtain ⟨I1,VQ⟩ : ∃I1:Int×Option (Nat×Nat)×Nat→AH→Nat→Prop,I1=fun x H' j=>Z H'∧∃(i:Nat) (qa:Option Nat),x=((i:Int),qa.map (fun b=>(b,0)),(gT ps i).length)∧i≤ps.length∧(gT ps i).length≤4096 ∧
   bQ H' qa (gT ps i).length (aC (gT ps i)) 5∧(∀b,qa=some b→H.n<b∧b<H'.n)∧j=ps.length - i:=⟨_,rfl⟩
 obtain ⟨I2,TD⟩ : ∃I2:Int×(Option (Nat×Nat)×Nat)×(Option (Nat×Nat)×Nat)→AH→Nat→Prop,I2=fun x H' j=>Z H'∧∃(i:Nat) (qa q7:Option Nat) (rs:List Rn),x=((i:Int),(qa.map (fun b=>(b,0)),(gT ps ps.length).length),(q7.map (fun b=>(b,0)),rs.length))∧i≤ps.length ∧
   bQ H' qa (gT ps ps.length).length (aC (gT ps ps.length)) 5∧(∀b,qa=some b→H.n<b∧b<H'.n∧q7 ≠ some b)∧bQ H' q7 rs.length (flat Rn.cells rs) 114∧(∀b,q7=some b→H.n<b∧b<H'.n)∧gq 0 rs i∧expand rs=(ps.take i).map Prod.snd ∧
   (∀r ∈ rs,0≤r.a.c∧r.a.c≤16777216)∧j=ps.length - i:=⟨_,rfl⟩
 refine .inl ⟨aB (by kernel_rfl),c6 (aS:=_) aq (Eq.mpr (IB (real Tryz.prog none) (q.map fun b=>(b,0)) ps.length cp H (p8 H (ps.map Prod.fst).flatten so) I1 I2) ?_)⟩
 simp only [bu,aU,aQ,aP,aF,bU,aK,eR,HO]
 have fresh : ∀ {H:AH} {o:aY} {v:List AV} {c:Nat},c<H.n→((H.alloc o).set H.n (.cells v 65 { whole:=true })).get c=H.get c:=fun {H o v c} hc=>by
  rw [AH.af,if_neg (by omega),AH.aa,if_neg (by omega)]
 have rd : ∀ {H' : AH} {i:Nat},Z H'→(h:i<ps.length)→∃b,q=some b∧H'.read b (0+i*6) 6=some (bz ps[i]):=by
  intro H' i hz hi
  rw [hZ] at hz
  obtain ⟨b,h1,h2,h3⟩:=ZQ i hi
  exact ⟨b,h1,h3 H' (hz.1 b h2)⟩
 refine ⟨⟨(0,none,0),ps.length,rfl,?_⟩,?_⟩
 ·rw [VQ,hZ]
  exact ⟨⟨fun c hc=>by rw [AH.aa,if_neg (by omega)],by rw [AH.aa,if_pos rfl],by simp⟩,0,none,rfl,Nat.zero_le _,Nat.zero_le _,⟨rfl,rfl⟩,(fun b h=>by cases h),rfl⟩
 rintro x H1 j1 hx
 rw [VQ] at hx
 obtain ⟨hz,i,qa,rfl,hi,VV,hL,qD,rfl⟩:=hx
 have iE:=hz
 rw [hZ] at iE
 obtain ⟨y1,y2,y3⟩:=iE
 by_cases Nf:i<ps.length
 ·have d1:decide ((i:Int)<(ps.length:Int))=true:=by rw [decide_eq_true_iff];omega
  simp only [d1,cond_true]
  obtain ⟨b,rfl,iu⟩:=rd hz Nf
  have Th:=Gq Nf
  have hle:=Mm ps (i+1)
  rw [Th,List.length_append] at hle
  refine ⟨b,0,⟨rfl,by omega,by omega⟩,_,_,_,_,_,_,iu,rfl,(H1.alloc (.cells [.str [],.bool false,.bool false,.bool false,.bool false,.int .i64 0] 65 { whole:=true })).set H1.n (.cells (bz ps[i]) 65 { whole:=true }),by simp [AH.write,AH.aa,aA,AV.one,bz,aj.cells],ps[i].1,by simp [AH.ak,AH.af,bz],?_⟩
  have hw:IntKind.i64.wrap (((gT ps i).length:Int)+(ps[i].1.length:Int))=((gT ps i).length:Int)+(ps[i].1.length:Int):=wrap_i64 (by omega) (by omega)
  by_cases h97:(gT ps i).length+ps[i].1.length > 4096
  ·have c1:IntKind.i64.wrap (((gT ps i).length:Int)+(ps[i].1.length:Int)) > 4096:=by rw [hw];omega
   simp only [c1,decide_true,cond_true]
   obtain ⟨A,hA⟩ : ∃A,A=(H1.alloc (.cells [.str [],.bool false,.bool false,.bool false,.bool false,.int .i64 0] 65 { whole:=true })).set H1.n (.cells (bz ps[i]) 65 { whole:=true }):=⟨_,rfl⟩
   have ao : ∀c,c<H1.n→A.get c=H1.get c:=fun c hc=>by rw [hA];exact fresh hc
   have an:A.n=H1.n+1:=by rw [hA];rfl
   rw [← hA]
   have a0:A.get H.n=some (.cells [.str [],.slice none 0 0] 24 { whole:=true }):=by rw [ao _ y3];exact y2
   refine ⟨rfl,A.set H.n (.cells [.str [],.slice none 0 0] 24 { whole:=true }),by simp [AH.write,a0,aA,AV.one],[],none,0,0,by simp [AH.read,AH.af],?_⟩
   unfold p8
   have:decide ((ps.map Prod.fst).flatten.length≤4096)=false:=by rw [decide_eq_false_iff_not];omega
   rw [this]
   refine ⟨none,rfl,⟨rfl,rfl⟩,(fun c hc=>by cases hc),?_,fun c hc=>?_⟩
   ·simp only [AH.bq];omega
   ·rw [AH.af,if_neg (by omega),ao c (by omega)];exact y1 c hc
  have c1 : ¬ (IntKind.i64.wrap (((gT ps i).length:Int)+(ps[i].1.length:Int)) > 4096):=by rw [hw];omega
  simp only [c1,decide_false,cond_false]
  obtain ⟨H3,g1,g2,g3,g4⟩:=Dv (H:=(H1.alloc (.cells [.str [],.bool false,.bool false,.bool false,.bool false,.int .i64 0] 65 { whole:=true })).set H1.n (.cells (bz ps[i]) 65 { whole:=true })) (q:=qa) (so:=gT ps i) (s:=ps[i].1)
   (hL.same fun b hb=>fresh (qD b hb).2) (dm _ (List.getElem_mem Nf)) (by omega)
  have hn3:H3.n=H1.n+2:=by rw [g2];simp
  have old : ∀c,c≤H.n→H3.get c=H1.get c:=fun c hc=>by
   rw [g4 c (by simp only [AH.bq,AH.az];omega) (fun e=>by have:=qD c e;omega),fresh (by omega)]
  refine ⟨ps[i].1,by simp [AH.ak,AH.af,bz],_,_,_,H3,g1,((i+1:Nat),some (H1.n+1,0),(gT ps (i+1)).length),ps.length - (i+1),by omega,?_,?_⟩
  ·have e2:=wrap_i64 (n:=(i:Int)+1) (by omega) (by omega)
   simp only [e2,Th];rfl
  ·rw [VQ,hZ]
   refine ⟨⟨fun c hc=>by rw [old _ (by omega)];exact y1 c hc,by rw [old _ (by omega)];exact y2,by omega⟩,i+1,some (H1.n+1),rfl,by omega,by rw [Th,List.length_append];omega,?_,?_,rfl⟩
   ·rw [Th];exact g3
   ·intro b hb;cases hb;omega
 ·have d1:decide ((i:Int)<(ps.length:Int))=false:=by rw [decide_eq_false_iff_not];omega
  simp only [d1,cond_false]
  obtain rfl:i=ps.length:=by omega
  refine ⟨⟨(0,(qa.map (fun b=>(b,0)),(gT ps ps.length).length),(none,0)),ps.length,rfl,?_⟩,?_⟩
  ·rw [TD];exact ⟨hz,0,qa,none,[],rfl,Nat.zero_le _,hL,fun b hb=>⟨(qD b hb).1,(qD b hb).2,fun e=>by cases e⟩,⟨rfl,rfl⟩,(fun b h=>by cases h),rfl,rfl,(fun r h=>by cases h),rfl⟩
  clear hz hL qD y1 y2 y3 hi Nf d1
  rintro x H2 j2 hx
  rw [TD] at hx
  obtain ⟨hz,i,qa,q7,rs,rfl,hi,hL,qD,hR,Rm,PJ,hex,PK,rfl⟩:=hx
  have iE:=hz
  rw [hZ] at iE
  obtain ⟨y1,y2,y3⟩:=iE
  by_cases Nf:i<ps.length
  ·have d1:decide ((i:Int)<(ps.length:Int))=true:=by rw [decide_eq_true_iff];omega
   simp only [d1,cond_true]
   obtain ⟨b,rfl,iu⟩:=rd hz Nf
   obtain ⟨a,ha⟩ : ∃a,a=ps[i].2:=⟨_,rfl⟩
   have PR:=hc _ (List.getElem_mem Nf)
   rw [← ha] at PR
   obtain ⟨A,hA⟩ : ∃A,A=(H2.alloc (.cells [.str [],.bool false,.bool false,.bool false,.bool false,.int .i64 0] 65 { whole:=true })).set H2.n (.cells (bz ps[i]) 65 { whole:=true }):=⟨_,rfl⟩
   have ag:A.get H2.n=some (.cells (bz ps[i]) 65 { whole:=true }):=by rw [hA,AH.af,if_pos rfl]
   have ao : ∀c,c<H2.n→A.get c=H2.get c:=fun c hc=>by rw [hA];exact fresh hc
   have an:A.n=H2.n+1:=by rw [hA];rfl
   have HM:A.read H2.n 1 5=some [.bool a.b,.bool a.i,.bool a.u,.bool a.k,.int .i64 a.c]:=by
    rw [ha];simp [AH.read,ag,bz,aj.cells]
   have e2:=wrap_i64 (n:=(i:Int)+1) (by omega) (by omega)
   have Xs:(ps.take (i+1)).map Prod.snd=(ps.take i).map Prod.snd ++ [a]:=by rw [List.take_succ_eq_append_getElem Nf,List.map_append,ha];rfl
   have BT:=nj PJ
   have more : ∃q4 qA pN H8,bV Tryz.prog (A.alloc (.cells [.int .i64 (i:Int),.int .i64 (IntKind.i64.wrap ((i:Int)+1)),.bool a.b,.bool a.i,.bool a.u,.bool a.k,.int .i64 a.c] 114 { whole:=true })) 112 112 (.slice (q7.map fun b=>(b,0)) rs.length rs.length) (.slice (some (A.n,0)) 1 1)=some (.slice q4 qA pN,H8) ∧
     ∃x k,k<ps.length - i∧[AV.ptr (some (H.n,0)),.int .i64 0,.slice (qa.map fun b=>(b,0)) (gT ps ps.length).length (gT ps ps.length).length,.slice q4 qA pN,.slice ((some b).map fun b=>(b,0)) ps.length cp,.int .i64 (ps.length:Int),.int .i64 (IntKind.i64.wrap ((i:Int)+1))] =
      [.ptr (some (H.n,0)),.int .i64 0,.slice x.2.1.1 x.2.1.2 x.2.1.2,.slice x.2.2.1 x.2.2.2 x.2.2.2,.slice ((some b).map fun b=>(b,0)) ps.length cp,.int .i64 (ps.length:Int),.int .i64 x.1]∧I2 x H8 k:=by
    obtain ⟨H8,g1,g2,g3,g4⟩:=Gt (H:=A.alloc (.cells (Rn.cells ⟨i,i+1,a⟩) 114 { whole:=true })) (q:=q7) (l:=rs) (y:=⟨i,i+1,a⟩) (c:=A.n) (fl:={ whole:=true })
     (hR.same fun b hb=>by have:=Rm b hb;rw [AH.aa,if_neg (by omega),ao b this.2]) (by rw [AH.aa,if_pos rfl]) (by omega)
    have old : ∀c,c<H2.n→q7 ≠ some c→H8.get c=H2.get c:=fun c hc hq=>by
     rw [g4 c (by simp only [AH.az];omega) hq,AH.aa,if_neg (by omega),ao c hc]
    have hn8:H8.n=H2.n+3:=by rw [g2];simp only [AH.az];omega
    refine ⟨some (A.n+1,0),(rs ++ [(⟨i,i+1,a⟩ : Rn)]).length,(rs ++ [(⟨i,i+1,a⟩ : Rn)]).length,H8,?_,((i+1:Nat),(qa.map (fun b=>(b,0)),(gT ps ps.length).length),(some (A.n+1,0),(rs ++ [(⟨i,i+1,a⟩ : Rn)]).length)),ps.length - (i+1),by omega,?_,?_⟩
    ·rw [e2];exact g1
    ·rw [e2];rfl
    ·rw [TD,hZ]
     refine ⟨⟨fun c hc=>by rw [old c (by omega) (fun e=>by have:=Rm c e;omega)];exact y1 c hc,by rw [old _ y3 (fun e=>by have:=Rm _ e;omega)];exact y2,by omega⟩,i+1,qa,some (A.n+1),rs ++ [(⟨i,i+1,a⟩ : Rn)],rfl,by omega,
      hL.same fun b hb=>old b (qD b hb).2.1 (qD b hb).2.2,fun b hb=>⟨(qD b hb).1,by have:=qD b hb;omega,fun e=>by have:=qD b hb;have:=Option.some.inj e;omega⟩,g3,(fun b hb=>by cases hb;omega),?_,?_,?_,rfl⟩
     ·exact eX.2 ⟨i,PJ,rfl,Nat.lt_succ_self i,rfl⟩
     ·rw [eT,hex,Xs];simp [expand]
     ·intro r hr
      rcases List.mem_append.1 hr with h | h
      ·exact PK r h
      ·simp only [List.mem_singleton] at h;rw [h];exact PR
   refine ⟨b,0,⟨rfl,by omega,by omega⟩,_,_,_,_,_,_,iu,rfl,A,by rw [hA];simp [AH.write,AH.aa,aA,AV.one,bz,aj.cells],?_⟩
   rcases List.eq_nil_or_concat rs with rfl | ⟨qi,r,rfl⟩
   ·have c1:(decide (((([]:List Rn).length:Nat):Int) > 0) == true)=false:=by decide
    simp only [c1,cond_false]
    obtain ⟨q4,qA,pN,H8,m1,x,k,m2,m3,m4⟩:=more
    exact ⟨_,_,_,_,_,HM,by decide,q4,qA,pN,H8,m1,x,k,m2,m3,m4⟩
   ·rw [List.concat_eq_append] at *
    have hlen:(qi ++ [r]).length=qi.length+1:=by simp
    have c1:(decide ((((qi ++ [r]).length:Nat):Int) > 0) == true)=true:=by rw [hlen,beq_iff_eq,decide_eq_true_iff];omega
    have w0:IntKind.i64.wrap (((qi ++ [r]).length:Int) - 1)=(qi.length:Int):=by rw [hlen,wrap_i64 (by omega) (by omega)];omega
    simp only [c1,cond_true,w0]
    cases q7 with
    | none=>have:=hR.1;rw [hlen] at this;omega
    | some c =>
     have hRc:H2.get c=some (.cells (flat Rn.cells (qi ++ [r])) 114 { fD:=true }):=hR
     obtain ⟨p1,p2⟩:=Rm c rfl
     have VU:A.get c=some (.cells (flat Rn.cells (qi ++ [r])) 114 { fD:=true }):=by rw [ao c p2];exact hRc
     have UT:(qi ++ [r])[qi.length]'(by rw [hlen];omega)=r:=by simp
     have ZM:A.read c (0+((qi.length:Int)).toNat*7+2) 5=some [.bool r.a.b,.bool r.a.i,.bool r.a.u,.bool r.a.k,.int .i64 r.a.c]:=by
      have:=iL Rn.ay VU (i:=qi.length) (k:=2) (m:=5) (by rw [hlen];omega) (by decide)
      rw [UT] at this
      rw [show ((qi.length:Int)).toNat=qi.length by omega,this];simp [Rn.cells]
     refine ⟨c,0,⟨rfl,by omega,by omega⟩,_,_,_,_,_,ZM,_,_,_,_,_,HM,?_⟩
     cases hq:(r.a.b == a.b && (r.a.i == a.i && (r.a.u == a.u && (r.a.k == a.k && (r.a.c == a.c && true))))) with
     | true =>
      simp only [cond_true]
      have ZO:r.a=a:=by
       simp only [Bool.and_eq_true,beq_iff_eq,and_true] at hq
       obtain ⟨x1,x2,x3,x4,x5⟩:=hq
       cases hr:r.a;cases a
       rw [hr] at x1 x2 x3 x4 x5
       simp only at x1 x2 x3 x4 x5
       rw [x1,x2,x3,x4,x5]
      obtain ⟨m,t1,t2,t3,t4⟩:=eX.1 PJ
      have t4' : r.t=i:=t4
      have Oz:A.ak c (0+((qi.length:Int)).toNat*7+1)=some (.int .i64 (r.t:Int)):=by
       have:=kG Rn.ay VU (i:=qi.length) (k:=1) (by rw [hlen];omega) (by decide)
       rw [UT] at this
       rw [show ((qi.length:Int)).toNat=qi.length by omega,this];rfl
      have sE:(qi ++ [r]).set qi.length ⟨r.f,r.t+1,r.a⟩=qi ++ [⟨r.f,r.t+1,r.a⟩]:=by simp
      have e3:IntKind.i64.wrap ((r.t:Int)+1)=((r.t+1:Nat):Int):=by rw [wrap_i64 (by omega) (by omega)];omega
      have hw:A.write c (0+((qi.length:Int)).toNat*7+1) [.int .i64 (IntKind.i64.wrap ((r.t:Int)+1))]=some (A.set c (.cells (flat Rn.cells (qi ++ [⟨r.f,r.t+1,r.a⟩])) 114 { fD:=true })):=by
       have:=kA (f:=Rn.cells) Rn.ay VU rfl rfl (i:=qi.length) (k:=1) (vs:=[.int .i64 ((r.t+1:Nat):Int)]) (y:=⟨r.f,r.t+1,r.a⟩) (by rw [hlen];omega) (by simp) (by simp [AV.one]) (by rw [UT];simp [aA,Rn.cells])
       rw [sE] at this
       rw [show ((qi.length:Int)).toNat=qi.length by omega,e3,this]
      refine ⟨c,0,⟨rfl,by omega,by omega⟩,_,Oz,c,0,⟨rfl,by omega,by omega⟩,rfl,_,hw,((i:Int)+1,(qa.map (fun b=>(b,0)),(gT ps ps.length).length),(some (c,0),(qi ++ [(⟨r.f,r.t+1,r.a⟩ : Rn)]).length)),ps.length - (i+1),by omega,?_,?_⟩
      ·rw [e2,hlen];simp
      ·rw [TD,hZ]
       refine ⟨⟨fun d hd=>by rw [AH.af,if_neg (by omega),ao d (by omega)];exact y1 d hd,by rw [AH.af,if_neg (by omega),ao _ y3];exact y2,by simp only [AH.bq];omega⟩,i+1,qa,some c,qi ++ [(⟨r.f,r.t+1,r.a⟩ : Rn)],rfl,by omega,
        hL.same fun d hd=>?_,fun d hd=>⟨(qD d hd).1,by have:=qD d hd;simp only [AH.bq];omega,(qD d hd).2.2⟩,?_,(fun d hd=>by cases hd;simp only [AH.bq];omega),?_,?_,?_,rfl⟩
       ·have:=qD d hd
        rw [AH.af,if_neg (fun e=>this.2.2 (by rw [e])),ao d this.2.1]
       ·show (A.set c _).get c=_
        rw [AH.af,if_pos rfl]
       ·exact eX.2 ⟨m,t1,t2,Nat.lt_succ_of_lt t3,by show r.t+1=i+1;omega⟩
       ·rw [Xs,← hex,eT,eT]
        simp only [expand,List.append_nil,List.append_assoc]
        congr 1
        rw [show r.t+1 - r.f=(r.t - r.f)+1 by omega,List.replicate_succ',ZO]
       ·intro r' Ef
        rcases List.mem_append.1 Ef with h | h
        ·exact PK r' (List.mem_append.2 (.inl h))
        ·simp only [List.mem_singleton] at h;rw [h];exact PK r (List.mem_append.2 (.inr (List.mem_singleton.2 rfl)))
     | false =>
      simp only [cond_false]
      obtain ⟨q4,qA,pN,H8,m1,x,k,m2,m3,m4⟩:=more
      exact ⟨_,_,_,_,_,HM,by decide,q4,qA,pN,H8,m1,x,k,m2,m3,m4⟩
  ·have d1:decide ((i:Int)<(ps.length:Int))=false:=by rw [decide_eq_false_iff_not];omega
   simp only [d1,cond_false]
   obtain rfl:i=ps.length:=by omega
   rw [List.take_length] at hex
   refine ⟨_,Gp hL,?_⟩
   have hRA:JO H2 q7 rs:=by
    cases q7 with
    | none=>exact List.length_eq_zero_iff.1 hR.1
    | some c=>exact ⟨(Rm c rfl).2,_,hR⟩
   rw [BC]
   rw [BC] at VV
   have hF:decide ((ps.map Prod.fst).flatten.length≤4096)=true:=by rw [decide_eq_true_iff];exact VV
   refine (Pm (ps.map Prod.fst).flatten ps.length Rh VV rs PJ PK (by rw [hex];exact hs) hRA).mono ?_
   rintro v H3 ⟨q2,rfl,g1,g2,g3,g4⟩
   have g0:H3.get H.n=some (.cells [.str [],.slice none 0 0] 24 { whole:=true }):=by rw [g4 _ y3];exact y2
   refine ⟨_,_,_,_,_,rfl,rfl,H3.set H.n (.cells [.str (Ci so (ps.map Prod.fst).flatten),.slice (q2.map fun b=>(b,0)) (lS so).length (lS so).length] 24 { whole:=true }),by simp [AH.write,g0,aA,AV.one],Ci so (ps.map Prod.fst).flatten,q2.map fun b=>(b,0),(lS so).length,(lS so).length,by simp [AH.read,AH.af],?_⟩
   unfold p8
   rw [hF]
   refine ⟨q2,rfl,?_,fun c hc=>?_,?_,fun c hc=>?_⟩
   ·exact g1.same fun b hb=>by have:=g2 b hb;rw [AH.af,if_neg (by omega)]
   ·have:=g2 c hc;simp only [AH.bq];omega
   ·simp only [AH.bq];omega
   ·rw [AH.af,if_neg (by omega),g4 c (by omega)];exact y1 c hc
end Go.Proofs.YtlkdhhkncoekgaaGreatDoor
end
