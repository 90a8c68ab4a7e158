/- slices.SortStableFunc puts rows of spans in order. -/
import Derived.Test.YtlkdhhkncoekgaaGreatDoorSortD
namespace Go.Proofs.YtlkdhhkncoekgaaGreatDoor
open Go.Am Go
section
variable {L:vV}
theorem nh {w a c:Nat} (ha:w ∣ a) (hc:w ∣ c) (h:c<a):c+w≤a:=by
 have:=Nat.le_of_dvd (by omega) (Nat.dvd_sub ha hc)
 omega
def SI (L:Ordr) (f:Nat→Nat) (a b:Nat):Prop:=jS L f a b∧∀x,a≤x→x<b→a≤f x∧f x<b
theorem SI.congr {L:Ordr} {f g:Nat→Nat} {a b:Nat} (h:SI L f a b) (e : ∀i,a≤i→i<b→g i=f i):SI L g a b:=⟨h.1.congr e,fun x h1 h2=>by rw [e x h1 h2];exact h.2 x h1 h2⟩
theorem SI.none {L:Ordr} {f:Nat→Nat} {a b:Nat} (h:b≤a):SI L f a b:=⟨fun p q h1 h2 h3=>by omega,fun x h1 h2=>by omega⟩
theorem SI.Yw {L:Ordr} {f:Nat→Nat} {a m b:Nat} (h1:SI L f a m) (h2:SI L f m b):Mx f a m b:=fun x y x1 x2 y1 y2=>by
 have:=(h1.2 x x1 x2).2
 have:=(h2.2 y y1 y2).1
 omega
theorem SI.merge {L:Ordr} {f g:Nat→Nat} {n a m b:Nat} (h1:SI L f a m) (h2:SI L f m b) (hm:a≤m∧m≤b) (hs:jS L g a b) (hr:ck n a b g f):SI L g a b:=by
 refine ⟨hs,fun x x1 x2=>?_⟩
 obtain ⟨y,y1,y2,e⟩:=hr.lM x x1 x2
 rw [e]
 rcases Nat.lt_or_ge y m with c | c
 ·have:=h1.2 y y1 c;omega
 ·have:=h2.2 y c y2;omega
theorem xp {w a:Nat} {g g' : Nat→Nat} (ha:w ∣ a) (hd : ∀c,w ∣ c→c<a→SI L.toOrdr g c (c+w)) (ho : ∀x,x<a→g' x=g x) (hs:SI L.toOrdr g' a (a+w)) : ∀c,w ∣ c→c<a+w→SI L.toOrdr g' c (c+w):=by
 intro c hc h
 rcases Nat.lt_trichotomy c a with g1 | g1 | g1
 ·have:=nh ha hc g1
  exact (hd c hc g1).congr fun i _ hi=>ho i (by omega)
 ·subst g1;exact hs
 ·have:=nh hc ha g1;omega
theorem xY {w a n:Nat} {g:Nat→Nat} (ha:w ∣ a) (Nl:a≤n) (h:n<a+w) (hd : ∀c,w ∣ c→c<a→SI L.toOrdr g c (c+w)) (hs:SI L.toOrdr g a n) : ∀c,w ∣ c→SI L.toOrdr g c (min (c+w) n):=by
 intro c hc
 rcases Nat.lt_trichotomy c a with g1 | g1 | g1
 ·have:=nh ha hc g1
  rw [Nat.min_eq_left (by omega)];exact hd c hc g1
 ·subst g1;rw [Nat.min_eq_right (by omega)];exact hs
 ·have:=nh hc ha g1
  exact SI.none (by omega)
set_option maxRecDepth 100000 in
theorem Hf {H:AH} {bk n:Nat} (h:fC L H bk (fun i=>i) n) (hn:n≤1000000) :
  aD Tryz.prog 144 [D bk n,.int .i64 n,Fc L] H (fun v H'=>∃g,Left L H bk n g v H'∧jS L.toOrdr g 0 n∧bM n g (fun i=>i)):=by
 obtain ⟨f,hf⟩ : ∃f:Nat→Nat,f=fun i=>i:=⟨_,rfl⟩
 rw [← hf] at h ⊢
 refine .inl ⟨aB (by kernel_rfl),bP (aS:=_) (c9:=_) aq (Eq.mpr (EM (real Tryz.prog) (Iter Tryz.prog) bk n L.g L.hg H _) ?_)⟩
 simp only [aK,aF]
 obtain ⟨Z,hZ⟩ : ∃Z:(Nat→Nat)→AH→Prop,Z=fun g H'=>fC L H' bk g n∧H.n≤H'.n∧∀c,c<H.n→c ≠ bk→H'.get c=H.get c:=⟨_,rfl⟩
 have z0:Z f H:=by rw [hZ];exact ⟨h,Nat.le_refl _,fun c _ _=>rfl⟩
 have DX : ∀ {g g2:Nat→Nat} {H1 H2:AH} {v:AV},Z g H1→Left L H1 bk n g2 v H2→Z g2 H2:=by
  intro g g2 H1 H2 v hz hl
  rw [hZ] at hz ⊢
  obtain ⟨_,k1,k2,k3⟩:=hl
  exact ⟨k1,by omega,fun c hc uJ=>by rw [k3 c (by omega) uJ];exact hz.2.2 c hc uJ⟩
 have GM : ∀ {g:Nat→Nat} {H1:AH},Z g H1→fC L H1 bk g n:=fun hz=>by rw [hZ] at hz;exact hz.1
 refine ⟨fun x H' k=>∃(a:Nat) (g:Nat→Nat),x=(20,(a:Int),((a+20:Nat):Int))∧20 ∣ a∧a≤n∧Z g H'∧(∀c,20 ∣ c→c<a→SI L.toOrdr g c (c+20))∧(∀x,a≤x→g x=x)∧bM n g f∧k=n - a,
  ⟨(20,0,20),n,rfl,0,f,rfl,⟨0,rfl⟩,Nat.zero_le _,z0,fun c _ h=>by omega,fun x _=>by rw [hf],bM.refl n f,rfl⟩,?_⟩
 rintro _ H1 _ ⟨a,g,rfl,GQ,Nl,hz,hd,C8,hp,rfl⟩
 have fO : ∀ {b:Nat} {g2:Nat→Nat},ck n a b g2 g→jS L.toOrdr g2 a b→SI L.toOrdr g2 a b:=fun {b g2} hr hs=>⟨hs,fun x x1 x2=>by
  obtain ⟨y,y1,y2,e⟩:=hr.lM x x1 x2
  rw [e,C8 y y1];exact ⟨y1,y2⟩⟩
 by_cases hb:a+20≤n
 ·have d1:decide (((a+20:Nat):Int)≤(n:Int))=true:=by rw [decide_eq_true_iff];omega
  simp only [d1,cond_true]
  refine (Bb (GM hz) hn hb Nl fun x y h1 h2 h3=>by rw [C8 x h1,C8 y (by omega)];exact h2).mono ?_
  rintro v H2 ⟨g2,hl,Ov,yW⟩
  refine ⟨(20,((a+20:Nat):Int),((a+20+20:Nat):Int)),n - (a+20),by omega,?_,a+20,g2,rfl,Nat.dvd_add GQ (Nat.dvd_refl 20),hb,DX hz hl,xp GQ hd (fun x hx=>yW.out x (.inl hx)) (fO yW Ov),fun x hx=>by rw [yW.out x (.inr hx)];exact C8 x (by omega),yW.perm.trans hp,rfl⟩
  have w:IntKind.i64.wrap (((a+20:Nat):Int)+20)=((a+20+20:Nat):Int):=by rw [wrap_i64 (by omega) (by omega)];omega
  simp only [w]
 have d1:decide (((a+20:Nat):Int)≤(n:Int))=false:=by rw [decide_eq_false_iff_not];omega
 simp only [d1,cond_false]
 refine (Bb (GM hz) hn (Nat.le_refl n) Nl fun x y h1 h2 h3=>by rw [C8 x h1,C8 y (by omega)];exact h2).mono ?_
 rintro v H2 ⟨g2,hl,Ov,yW⟩
 have ju:=DX hz hl
 have hR : ∀c,20 ∣ c→SI L.toOrdr g2 c (min (c+20) n):=by
  refine xY GQ Nl (by omega) (fun c hc PL=>?_) (fO yW Ov)
  have:=nh GQ hc PL
  exact (hd c hc PL).congr fun i _ hi=>yW.out i (.inl (by omega))
 refine ⟨fun x H' k=>∃(w:Nat) (g:Nat→Nat),x=(w:Int)∧0<w∧w≤2000020∧Z g H'∧(∀c,w ∣ c→SI L.toOrdr g c (min (c+w) n))∧bM n g f∧k=n - w,⟨20,n - 20,rfl,20,g2,rfl,by decide,by decide,ju,hR,yW.perm.trans hp,rfl⟩,?_⟩
 clear hR ju hl yW Ov hd hz GQ Nl d1 hb hp fO C8
 rintro _ H3 _ ⟨w,g,rfl,hw0,hw1,hz,hR,hp,rfl⟩
 by_cases hwn:w<n
 ·have d2:decide ((w:Int)<(n:Int))=true:=by rw [decide_eq_true_iff];omega
  have w2:IntKind.i64.wrap (2*(w:Int))=((2*w:Nat):Int):=by rw [wrap_i64 (by omega) (by omega)];omega
  simp only [d2,cond_true,w2]
  refine ⟨fun x H' k=>∃(a:Nat) (g:Nat→Nat),x=((w:Int),(a:Int),((a+2*w:Nat):Int))∧(2*w) ∣ a∧a≤n∧Z g H'∧(∀c,(2*w) ∣ c→c<a→SI L.toOrdr g c (c+2*w))∧(∀c,w ∣ c→a≤c→SI L.toOrdr g c (min (c+w) n))∧bM n g f∧k=n - a,
   ⟨((w:Int),0,((2*w:Nat):Int)),n,rfl,0,g,by rw [Nat.zero_add];rfl,⟨0,rfl⟩,Nat.zero_le _,hz,fun c _ h=>by omega,fun c hc _=>hR c hc,hp,rfl⟩,?_⟩
  rintro _ H4 _ ⟨a,g4,rfl,GQ,Nl,MT,Vs,R2,U4,rfl⟩
  have UI:w ∣ a:=Nat.dvd_trans ⟨2,by omega⟩ GQ
  have Q7:w ∣ a+w:=Nat.dvd_add UI (Nat.dvd_refl w)
  have Ww:IntKind.i64.wrap ((a:Int)+(w:Int))=((a+w:Nat):Int):=by rw [wrap_i64 (by omega) (by omega)];omega
  have wb:IntKind.i64.wrap (((a+2*w:Nat):Int)+((2*w:Nat):Int))=((a+2*w+2*w:Nat):Int):=by rw [wrap_i64 (by omega) (by omega)];omega
  by_cases hb:a+2*w≤n
  ·have d3:decide (((a+2*w:Nat):Int)≤(n:Int))=true:=by rw [decide_eq_true_iff];omega
   simp only [d3,cond_true,Ww,w2,wb]
   have s1:SI L.toOrdr g4 a (a+w):=by have:=R2 a UI (Nat.le_refl a);rwa [Nat.min_eq_left (by omega)] at this
   have s2:SI L.toOrdr g4 (a+w) (a+2*w):=by have:=R2 (a+w) Q7 (by omega);rwa [show min (a+w+w) n=a+2*w by omega] at this
   refine (tA _ (m:=a+w) rfl (GM MT) hn (by omega) (by omega) hb s1.1 s2.1 (s1.Yw s2)).mono ?_
   rintro v H5 ⟨g5,hl,Ri,GL⟩
   refine ⟨((w:Int),((a+2*w:Nat):Int),((a+2*w+2*w:Nat):Int)),n - (a+2*w),by omega,rfl,a+2*w,g5,rfl,Nat.dvd_add GQ (Nat.dvd_refl _),hb,DX MT hl,xp GQ Vs (fun x hx=>GL.out x (.inl hx)) (s1.merge s2 (by omega) Ri GL),fun c hc PL=>?_,GL.perm.trans U4,rfl⟩
   exact (R2 c hc (by omega)).congr fun i hi _=>GL.out i (.inr (by omega))
  ·have d3:decide (((a+2*w:Nat):Int)≤(n:Int))=false:=by rw [decide_eq_false_iff_not];omega
   simp only [d3,cond_false,Ww]
   have s1:SI L.toOrdr g4 a (min (a+w) n):=R2 a UI (Nat.le_refl a)
   refine ⟨fun x H'=>x=(w:Int)∧∃g,Z g H'∧(∀c,(2*w) ∣ c→SI L.toOrdr g c (min (c+2*w) n))∧bM n g f,?_,?_⟩
   ·by_cases hm:a+w<n
    ·have d4:decide (((a+w:Nat):Int)<(n:Int))=true:=by rw [decide_eq_true_iff];omega
     simp only [d4,cond_true]
     have s2:SI L.toOrdr g4 (a+w) n:=by have:=R2 (a+w) Q7 (by omega);rwa [show min (a+w+w) n=n by omega] at this
     have Ue:SI L.toOrdr g4 a (a+w):=by rwa [Nat.min_eq_left (by omega)] at s1
     refine (tA _ (m:=a+w) rfl (GM MT) hn (by omega) hm (Nat.le_refl n) Ue.1 s2.1 (Ue.Yw s2)).mono ?_
     rintro v H5 ⟨g5,hl,Ri,GL⟩
     refine ⟨(w:Int),0,trivial,rfl,rfl,g5,DX MT hl,xY GQ Nl (by omega) (fun c hc PL=>?_) (Ue.merge s2 (by omega) Ri GL),GL.perm.trans U4⟩
     have:=nh GQ hc PL
     exact (Vs c hc PL).congr fun i _ hi=>GL.out i (.inl (by omega))
    ·have d4:decide (((a+w:Nat):Int)<(n:Int))=false:=by rw [decide_eq_false_iff_not];omega
     simp only [d4,cond_false]
     exact ⟨(w:Int),0,trivial,rfl,rfl,g4,MT,xY GQ Nl (by omega) Vs (by rwa [Nat.min_eq_right (by omega)] at s1),U4⟩
   ·rintro _ H6 ⟨rfl,g6,QW,hR6,ZV⟩
    have ww:IntKind.i64.wrap ((w:Int)*2)=((2*w:Nat):Int):=by rw [wrap_i64 (by omega) (by omega)];omega
    exact ⟨((2*w:Nat):Int),n - 2*w,by omega,by rw [ww],2*w,g6,rfl,by omega,by omega,QW,hR6,ZV,rfl⟩
 ·have d2:decide ((w:Int)<(n:Int))=false:=by rw [decide_eq_false_iff_not];omega
  simp only [d2,cond_false]
  rw [hZ] at hz
  exact ⟨g,⟨rfl,hz.1,hz.2.1,hz.2.2⟩,(hR 0 ⟨0,rfl⟩).1.sub (Nat.le_refl 0) (by omega),hp⟩
set_option maxRecDepth 100000 in
theorem Hl {H:AH} {bk n:Nat} (h:fC L H bk (fun i=>i) n) (hn:n≤1000000) :
  aD Tryz.prog 127 [D bk n,Fc L] H (fun v H'=>∃g,Left L H bk n g v H'∧jS L.toOrdr g 0 n∧bM n g (fun i=>i)):=by
 refine .inl ⟨aB (by kernel_rfl),bP (aS:=_) (c9:=_) aq (Eq.mpr (Ho (real Tryz.prog) (Iter Tryz.prog) bk n L.g L.hg H _) ?_)⟩
 simp only [aF]
 refine (Hf h hn).mono ?_
 rintro v H' ⟨g,⟨rfl,h1⟩,h2⟩
 exact ⟨g,⟨rfl,h1⟩,h2⟩
end
/-! The one row that is in order -/
def gb:List av→av→List av
 | [],x=>[x]
 | y :: l,x=>if nK x y then x :: y :: l else y :: gb l x
def aR (sp:List av):List av:=sp.foldl gb []
def Ordered (l:List av):Prop:=l.Pairwise fun x y=>nK y x=false
theorem qx : ∀(l:List av) (x:av),(gb l x).Perm (x :: l)
 | [],x=>List.Perm.refl _
 | y :: l,x=>by
  unfold gb
  split
  ·exact List.Perm.refl _
  ·exact ((qx l x).cons y).trans (List.Perm.swap x y l)
theorem pM : ∀ {l:List av} {x:av},Ordered l→Ordered (gb l x)
 | [],x,_=>List.pairwise_singleton ..
 | y :: l,x,h=>by
  have h':=List.pairwise_cons.1 h
  unfold gb
  split
  ·rename_i hl
   refine List.pairwise_cons.2 ⟨fun z hz=>?_,h⟩
   rcases List.mem_cons.1 hz with rfl | hz
   ·exact yP hl
   ·exact qv (h'.1 z hz) (yP hl)
  ·rename_i hl
   refine List.pairwise_cons.2 ⟨fun z hz=>?_,pM h'.2⟩
   rcases List.mem_cons.1 ((qx l x).mem_iff.1 hz) with rfl | hz
   ·exact Bool.eq_false_iff.2 hl
   ·exact h'.1 z hz
theorem wL : ∀(sp l:List av),Ordered l→Ordered (sp.foldl gb l)∧(sp.foldl gb l).Perm (sp ++ l)
 | [],l,h=>⟨h,List.Perm.refl _⟩
 | x :: sp,l,h=>by
  obtain ⟨h1,h2⟩:=wL sp (gb l x) (pM h)
  refine ⟨h1,h2.trans ?_⟩
  exact ((qx l x).append_left sp).trans List.perm_middle
theorem jo (sp:List av):Ordered (aR sp)∧(aR sp).Perm sp:=by
 have:=wL sp [] List.Pairwise.nil
 rw [List.append_nil] at this;exact this
def JR (sp:List av):Prop:=sp.Pairwise fun x y=>nK x y=true∨nK y x=true
theorem P6 {N:Nat} {f g:Nat→av} (F : ∀i j,i<j→j<N→nK (f i) (f j)=true) (G : ∀i j,i<j→j<N→nK (g i) (g j)=true) (fg : ∀i,i<N→∃j,j<N∧f i=g j) (gf : ∀i,i<N→∃j,j<N∧g i=f j) : ∀i,i<N→f i=g i:=by
 intro i
 induction i using Nat.strongRecOn with
 | ind i ih =>
  intro hi
  obtain ⟨j,hj,ej⟩:=fg i hi
  obtain ⟨k,hk,ek⟩:=gf i hi
  rcases Nat.lt_trichotomy j i with h1 | h1 | h1
  ·exfalso
   have e:=ih j h1 hj
   have:=F j i h1 hi
   rw [e,ej,D9] at this;cases this
  ·subst h1;exact ej
  ·rcases Nat.lt_trichotomy k i with h2 | h2 | h2
   ·exfalso
    have e:=ih k h2 hk
    have:=G k i h2 hi
    rw [← e,ek,D9] at this;cases this
   ·subst h2;exact ek.symm
   ·exfalso
    have x1:=G i j h1 hj
    have x2:=F i k h2 hk
    rw [← ej,ek] at x1
    have:=yP x1
    rw [this] at x2;cases x2
def QF (sp:Nat→av) (fl:Fl) (h1:fl.own=true) (h2:fl.fz=0):vV where
 sp:=sp
 AO:=nK
 TP:=yP
 nt:=qv
 g:=147
 hg:=.inl rfl
 cmp:=Mh
 pure:=Gj
 dec:=Mg
 fl:=fl
 own:=h1
 fz:=h2
theorem ER {sp:List av} (hl:sp.length≤1000000) (ha:JR sp):xD sp (aR sp):=by
 obtain ⟨ho,hp⟩:=jo sp
 have hlen:(aR sp).length=sp.length:=hp.length_eq
 refine ⟨hlen,fun H q hq hb=>?_⟩
 cases q with
 | none =>
  have h0:sp=[]:=List.length_eq_zero_iff.1 hq.1
  subst h0
  refine ES.c7 ⟨rfl,hq,Nat.le_refl _,fun c _ _=>rfl⟩
 | some bk =>
  obtain ⟨n,hn⟩ : ∃n,n=sp.length:=⟨_,rfl⟩
  obtain ⟨f,hf⟩ : ∃f:Nat→av,f=fun i=>(sp[i]?).getD ⟨0,0,0,0⟩:=⟨_,rfl⟩
  have I5 : ∀l:List av,l.length=n→(List.range n).map (fun i=>(l[i]?).getD ⟨0,0,0,0⟩)=l:=by
   intro l hl
   apply List.ext_getElem
   ·rw [List.length_map,List.length_range,hl]
   ·intro i h1 h2
    rw [List.getElem_map,List.getElem_range,List.getElem?_eq_getElem h2];rfl
  have hH:fC (QF f { fD:=true } rfl rfl) H bk (fun i=>i) n:=by
   have e:(List.range n).map f=sp:=by rw [hf];exact I5 sp hn.symm
   show H.get bk=some (.cells (flat av.cells ((List.range n).map f)) 54 _)
   rw [e];exact hq
  rw [← hn]
  refine (Hl hH (by omega)).mono ?_
  rintro v H' ⟨p,⟨rfl,h1,h2,h3⟩,qC,s,t,a1,a2,a3'⟩
  obtain ⟨g,hg⟩ : ∃g:Nat→av,g=fun i=>f (p i):=⟨_,rfl⟩
  have a3 : ∀i,i<n→g i=f (s i):=fun i hi=>by rw [hg];simp only;rw [a3' i hi]
  have hs : ∀i j,0≤i→i<j→j<n→nK (g j) (g i)=false:=fun i j h1 h2 h3=>by rw [hg];exact (Ordr.AN.1 (qC i j h1 h2 h3)).1
  refine ⟨rfl,?_,h2,fun c hc dm=>h3 c hc fun e=>dm (by rw [e])⟩
  have apart : ∀i j,i<n→j<n→i ≠ j→nK (f i) (f j)=true∨nK (f j) (f i)=true:=by
   have:=List.pairwise_iff_getElem.1 ha
   intro i j hi hj dm
   rw [hf]
   simp only [List.getElem?_eq_getElem (show i<sp.length by omega),List.getElem?_eq_getElem (show j<sp.length by omega),Option.getD_some]
   rcases Nat.lt_or_ge i j with h | h
   ·exact this i j (by omega) (by omega) h
   ·exact (this j i (by omega) (by omega) (by omega)).symm
  obtain ⟨k,hk⟩ : ∃k:Nat→av,k=fun i=>((aR sp)[i]?).getD ⟨0,0,0,0⟩:=⟨_,rfl⟩
  have XH:(List.range n).map k=aR sp:=by rw [hk];exact I5 _ (by omega)
  have QE : ∀x,x ∈ sp↔∃i,i<n∧f i=x:=by
   intro x
   conv=>lhs;rw [← I5 sp hn.symm]
   rw [List.mem_map,hf]
   simp only [List.mem_range]
  have QD : ∀x,x ∈ aR sp↔∃i,i<n∧k i=x:=by
   intro x
   conv=>lhs;rw [← XH]
   rw [List.mem_map]
   simp only [List.mem_range]
  have F : ∀i j,i<j→j<n→nK (g i) (g j)=true:=by
   intro i j I7 hj
   have dm:s i ≠ s j:=fun e=>by
    have h1:=(a1 i (by omega)).2
    have h2:=(a1 j hj).2
    rw [e,h2] at h1;omega
   rcases apart (s i) (s j) (a1 i (by omega)).1 (a1 j hj).1 dm with g1 | g1
   ·rw [a3 i (by omega),a3 j hj];exact g1
   ·have:=hs i j (Nat.zero_le _) I7 hj
    rw [a3 i (by omega),a3 j hj,g1] at this;cases this
  have PO:JR (aR sp):=(hp.pairwise_iff (fun {x y} h=>h.symm)).2 ha
  have K : ∀i j,i<j→j<n→nK (k i) (k j)=true:=by
   intro i j I7 hj
   have e1:=List.pairwise_iff_getElem.1 PO i j (by omega) (by omega) I7
   have e2:=List.pairwise_iff_getElem.1 ho i j (by omega) (by omega) I7
   rw [hk]
   simp only [List.getElem?_eq_getElem (show i<(aR sp).length by omega),List.getElem?_eq_getElem (show j<(aR sp).length by omega),Option.getD_some]
   rcases e1 with e1 | e1
   ·exact e1
   ·rw [e1] at e2;cases e2
  have gk:=P6 F K (fun i hi=>by
    have:g i ∈ aR sp:=hp.mem_iff.2 ((QE _).2 ⟨s i,(a1 i hi).1,(a3 i hi).symm⟩)
    obtain ⟨j,hj,e⟩:=(QD _).1 this
    exact ⟨j,hj,e.symm⟩) (fun i hi=>by
    have:k i ∈ sp:=hp.mem_iff.1 ((QD _).2 ⟨i,hi,rfl⟩)
    obtain ⟨j,hj,e⟩:=(QE _).1 this
    refine ⟨t j,(a2 j hj).1,?_⟩
    rw [a3 _ (a2 j hj).1,(a2 j hj).2,e])
  have e:(List.range n).map (fun i=>f (p i))=aR sp:=by
   rw [← XH]
   exact List.map_congr_left fun i hi=>by have:=gk i (List.mem_range.1 hi);rw [hg] at this;exact this
  have Yg:H'.get bk=some (.cells (flat av.cells ((List.range n).map fun i=>f (p i))) 54 { fD:=true }):=h1
  rw [e] at Yg
  exact Yg
end Go.Proofs.YtlkdhhkncoekgaaGreatDoor
