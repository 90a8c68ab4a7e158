/- slices.SortStableFunc puts rows of spans in order. -/
import Derived.Test.YtlkdhhkncoekgaaDoorSortD
namespace Go.Proofs.YtlkdhhkncoekgaaDoor
open Go.Am Go
section
variable {L:vm}
theorem mJ {w a c:Nat} (ha:w ∣ a) (hc:w ∣ c) (h:c<a):c+w≤a:=by
 have:=Nat.le_of_dvd (by omega) (Nat.dvd_sub ha hc)
 omega
def SI (L:Ordr) (f:Nat→Nat) (a b:Nat):Prop:=jv L f a b∧∀x,a≤x→x<b→a≤f x∧f x<b
theorem SI.congr {L:Ordr} {f g:Nat→Nat} {a b:Nat} (h:SI L f a b) (e : ∀i,a≤i→i<b→g i=f i):SI L g a b:=⟨h.1.congr e,fun x h1 h2=>by rw [e x h1 h2];exact h.2 x h1 h2⟩
theorem SI.none {L:Ordr} {f:Nat→Nat} {a b:Nat} (h:b≤a):SI L f a b:=⟨fun p q h1 h2 h3=>by omega,fun x h1 h2=>by omega⟩
theorem SI.XC {L:Ordr} {f:Nat→Nat} {a m b:Nat} (h1:SI L f a m) (h2:SI L f m b):LQ f a m b:=fun x y x1 x2 y1 y2=>by
 have:=(h1.2 x x1 x2).2
 have:=(h2.2 y y1 y2).1
 omega
theorem SI.merge {L:Ordr} {f g:Nat→Nat} {n a m b:Nat} (h1:SI L f a m) (h2:SI L f m b) (hm:a≤m∧m≤b) (hs:jv L g a b) (hr:bT n a b g f):SI L g a b:=by
 refine ⟨hs,fun x x1 x2=>?_⟩
 obtain ⟨y,y1,y2,e⟩:=hr.kY x x1 x2
 rw [e]
 rcases Nat.lt_or_ge y m with c | c
 ·have:=h1.2 y y1 c;omega
 ·have:=h2.2 y c y2;omega
theorem wC {w a:Nat} {g g' : Nat→Nat} (ha:w ∣ a) (hd : ∀c,w ∣ c→c<a→SI L.toOrdr g c (c+w)) (ho : ∀x,x<a→g' x=g x) (hs:SI L.toOrdr g' a (a+w)) : ∀c,w ∣ c→c<a+w→SI L.toOrdr g' c (c+w):=by
 intro c hc h
 rcases Nat.lt_trichotomy c a with g1 | g1 | g1
 ·have:=mJ ha hc g1
  exact (hd c hc g1).congr fun i _ hi=>ho i (by omega)
 ·subst g1;exact hs
 ·have:=mJ hc ha g1;omega
theorem xg {w a n:Nat} {g:Nat→Nat} (ha:w ∣ a) (MD:a≤n) (h:n<a+w) (hd : ∀c,w ∣ c→c<a→SI L.toOrdr g c (c+w)) (hs:SI L.toOrdr g a n) : ∀c,w ∣ c→SI L.toOrdr g c (min (c+w) n):=by
 intro c hc
 rcases Nat.lt_trichotomy c a with g1 | g1 | g1
 ·have:=mJ ha hc g1
  rw [Nat.min_eq_left (by omega)];exact hd c hc g1
 ·subst g1;rw [Nat.min_eq_right (by omega)];exact hs
 ·have:=mJ hc ha g1
  exact SI.none (by omega)
set_option maxRecDepth 100000 in
theorem GJ {H:AH} {bk n:Nat} (h:fq L H bk (fun i=>i) n) (hn:n≤1000000) :
  az Tryd.prog 113 [D bk n,.int .i64 n,Fc L] H (fun v H'=>∃g,Left L H bk n g v H'∧jv L.toOrdr g 0 n∧bE n g (fun i=>i)):=by
 obtain ⟨f,hf⟩ : ∃f:Nat→Nat,f=fun i=>i:=⟨_,rfl⟩
 rw [← hf] at h ⊢
 refine .inl ⟨aB (by kernel_rfl),ck (aT:=_) (dY:=_) au (Eq.mpr (Eg (real Tryd.prog) (Iter Tryd.prog) bk n L.g L.hg H _) ?_)⟩
 simp only [aL,aJ]
 obtain ⟨Z,hZ⟩ : ∃Z:(Nat→Nat)→AH→Prop,Z=fun g H'=>fq L H' bk g n∧H.n≤H'.n∧∀c,c<H.n→c ≠ bk→H'.get c=H.get c:=⟨_,rfl⟩
 have z0:Z f H:=by rw [hZ];exact ⟨h,Nat.le_refl _,fun c _ _=>rfl⟩
 have Dn : ∀ {g g2:Nat→Nat} {H1 H2:AH} {v:AV},Z g H1→Left L H1 bk n g2 v H2→Z g2 H2:=by
  intro g g2 H1 H2 v hz hl
  rw [hZ] at hz ⊢
  obtain ⟨_,k1,k2,k3⟩:=hl
  exact ⟨k1,by omega,fun c hc tT=>by rw [k3 c (by omega) tT];exact hz.2.2 c hc tT⟩
 have Ii : ∀ {g:Nat→Nat} {H1:AH},Z g H1→fq L H1 bk g n:=fun hz=>by rw [hZ] at hz;exact hz.1
 refine ⟨fun x H' k=>∃(a:Nat) (g:Nat→Nat),x=(20,(a:Int),((a+20:Nat):Int))∧20 ∣ a∧a≤n∧Z g H'∧(∀c,20 ∣ c→c<a→SI L.toOrdr g c (c+20))∧(∀x,a≤x→g x=x)∧bE n g f∧k=n - a,
  ⟨(20,0,20),n,rfl,0,f,rfl,⟨0,rfl⟩,Nat.zero_le _,z0,fun c _ h=>by omega,fun x _=>by rw [hf],bE.refl n f,rfl⟩,?_⟩
 rintro _ H1 _ ⟨a,g,rfl,Gm,MD,hz,hd,Cx,hp,rfl⟩
 have iX : ∀ {b:Nat} {g2:Nat→Nat},bT n a b g2 g→jv L.toOrdr g2 a b→SI L.toOrdr g2 a b:=fun {b g2} hr hs=>⟨hs,fun x x1 x2=>by
  obtain ⟨y,y1,y2,e⟩:=hr.kY x x1 x2
  rw [e,Cx y y1];exact ⟨y1,y2⟩⟩
 by_cases hb:a+20≤n
 ·have d1:decide (((a+20:Nat):Int)≤(n:Int))=true:=by rw [decide_eq_true_iff];omega
  simp only [d1,cond_true]
  refine (Ap (Ii hz) hn hb MD fun x y h1 h2 h3=>by rw [Cx x h1,Cx y (by omega)];exact h2).mono ?_
  rintro v H2 ⟨g2,hl,NM,yd⟩
  refine ⟨(20,((a+20:Nat):Int),((a+20+20:Nat):Int)),n - (a+20),by omega,?_,a+20,g2,rfl,Nat.dvd_add Gm (Nat.dvd_refl 20),hb,Dn hz hl,wC Gm hd (fun x hx=>yd.out x (.inl hx)) (iX yd NM),fun x hx=>by rw [yd.out x (.inr hx)];exact Cx x (by omega),yd.perm.trans hp,rfl⟩
  have w:IntKind.i64.wrap (((a+20:Nat):Int)+20)=((a+20+20:Nat):Int):=by rw [wrap_i64 (by omega) (by omega)];omega
  simp only [w]
 have d1:decide (((a+20:Nat):Int)≤(n:Int))=false:=by rw [decide_eq_false_iff_not];omega
 simp only [d1,cond_false]
 refine (Ap (Ii hz) hn (Nat.le_refl n) MD fun x y h1 h2 h3=>by rw [Cx x h1,Cx y (by omega)];exact h2).mono ?_
 rintro v H2 ⟨g2,hl,NM,yd⟩
 have nQ:=Dn hz hl
 have hR : ∀c,20 ∣ c→SI L.toOrdr g2 c (min (c+20) n):=by
  refine xg Gm MD (by omega) (fun c hc OY=>?_) (iX yd NM)
  have:=mJ Gm hc OY
  exact (hd c hc OY).congr fun i _ hi=>yd.out i (.inl (by omega))
 refine ⟨fun x H' k=>∃(w:Nat) (g:Nat→Nat),x=(w:Int)∧0<w∧w≤2000020∧Z g H'∧(∀c,w ∣ c→SI L.toOrdr g c (min (c+w) n))∧bE n g f∧k=n - w,⟨20,n - 20,rfl,20,g2,rfl,by decide,by decide,nQ,hR,yd.perm.trans hp,rfl⟩,?_⟩
 clear hR nQ hl yd NM hd hz Gm MD d1 hb hp iX Cx
 rintro _ H3 _ ⟨w,g,rfl,hw0,hw1,hz,hR,hp,rfl⟩
 by_cases hwn:w<n
 ·have d2:decide ((w:Int)<(n:Int))=true:=by rw [decide_eq_true_iff];omega
  have w2:IntKind.i64.wrap (2*(w:Int))=((2*w:Nat):Int):=by rw [wrap_i64 (by omega) (by omega)];omega
  simp only [d2,cond_true,w2]
  refine ⟨fun x H' k=>∃(a:Nat) (g:Nat→Nat),x=((w:Int),(a:Int),((a+2*w:Nat):Int))∧(2*w) ∣ a∧a≤n∧Z g H'∧(∀c,(2*w) ∣ c→c<a→SI L.toOrdr g c (c+2*w))∧(∀c,w ∣ c→a≤c→SI L.toOrdr g c (min (c+w) n))∧bE n g f∧k=n - a,
   ⟨((w:Int),0,((2*w:Nat):Int)),n,rfl,0,g,by rw [Nat.zero_add];rfl,⟨0,rfl⟩,Nat.zero_le _,hz,fun c _ h=>by omega,fun c hc _=>hR c hc,hp,rfl⟩,?_⟩
  rintro _ H4 _ ⟨a,g4,rfl,Gm,MD,Mg,UL,Rc,Uk,rfl⟩
  have TU:w ∣ a:=Nat.dvd_trans ⟨2,by omega⟩ Gm
  have Qi:w ∣ a+w:=Nat.dvd_add TU (Nat.dvd_refl w)
  have VE:IntKind.i64.wrap ((a:Int)+(w:Int))=((a+w:Nat):Int):=by rw [wrap_i64 (by omega) (by omega)];omega
  have wb:IntKind.i64.wrap (((a+2*w:Nat):Int)+((2*w:Nat):Int))=((a+2*w+2*w:Nat):Int):=by rw [wrap_i64 (by omega) (by omega)];omega
  by_cases hb:a+2*w≤n
  ·have d3:decide (((a+2*w:Nat):Int)≤(n:Int))=true:=by rw [decide_eq_true_iff];omega
   simp only [d3,cond_true,VE,w2,wb]
   have s1:SI L.toOrdr g4 a (a+w):=by have:=Rc a TU (Nat.le_refl a);rwa [Nat.min_eq_left (by omega)] at this
   have s2:SI L.toOrdr g4 (a+w) (a+2*w):=by have:=Rc (a+w) Qi (by omega);rwa [show min (a+w+w) n=a+2*w by omega] at this
   refine (sE _ (m:=a+w) rfl (Ii Mg) hn (by omega) (by omega) hb s1.1 s2.1 (s1.XC s2)).mono ?_
   rintro v H5 ⟨g5,hl,Qp,Gg⟩
   refine ⟨((w:Int),((a+2*w:Nat):Int),((a+2*w+2*w:Nat):Int)),n - (a+2*w),by omega,rfl,a+2*w,g5,rfl,Nat.dvd_add Gm (Nat.dvd_refl _),hb,Dn Mg hl,wC Gm UL (fun x hx=>Gg.out x (.inl hx)) (s1.merge s2 (by omega) Qp Gg),fun c hc OY=>?_,Gg.perm.trans Uk,rfl⟩
   exact (Rc c hc (by omega)).congr fun i hi _=>Gg.out i (.inr (by omega))
  ·have d3:decide (((a+2*w:Nat):Int)≤(n:Int))=false:=by rw [decide_eq_false_iff_not];omega
   simp only [d3,cond_false,VE]
   have s1:SI L.toOrdr g4 a (min (a+w) n):=Rc a TU (Nat.le_refl a)
   refine ⟨fun x H'=>x=(w:Int)∧∃g,Z g H'∧(∀c,(2*w) ∣ c→SI L.toOrdr g c (min (c+2*w) n))∧bE n g f,?_,?_⟩
   ·by_cases hm:a+w<n
    ·have d4:decide (((a+w:Nat):Int)<(n:Int))=true:=by rw [decide_eq_true_iff];omega
     simp only [d4,cond_true]
     have s2:SI L.toOrdr g4 (a+w) n:=by have:=Rc (a+w) Qi (by omega);rwa [show min (a+w+w) n=n by omega] at this
     have Tm:SI L.toOrdr g4 a (a+w):=by rwa [Nat.min_eq_left (by omega)] at s1
     refine (sE _ (m:=a+w) rfl (Ii Mg) hn (by omega) hm (Nat.le_refl n) Tm.1 s2.1 (Tm.XC s2)).mono ?_
     rintro v H5 ⟨g5,hl,Qp,Gg⟩
     refine ⟨(w:Int),0,trivial,rfl,rfl,g5,Dn Mg hl,xg Gm MD (by omega) (fun c hc OY=>?_) (Tm.merge s2 (by omega) Qp Gg),Gg.perm.trans Uk⟩
     have:=mJ Gm hc OY
     exact (UL c hc OY).congr fun i _ hi=>Gg.out i (.inl (by omega))
    ·have d4:decide (((a+w:Nat):Int)<(n:Int))=false:=by rw [decide_eq_false_iff_not];omega
     simp only [d4,cond_false]
     exact ⟨(w:Int),0,trivial,rfl,rfl,g4,Mg,xg Gm MD (by omega) UL (by rwa [Nat.min_eq_right (by omega)] at s1),Uk⟩
   ·rintro _ H6 ⟨rfl,g6,TM,ZI,YY⟩
    have ww:IntKind.i64.wrap ((w:Int)*2)=((2*w:Nat):Int):=by rw [wrap_i64 (by omega) (by omega)];omega
    exact ⟨((2*w:Nat):Int),n - 2*w,by omega,by rw [ww],2*w,g6,rfl,by omega,by omega,TM,ZI,YY,rfl⟩
 ·have d2:decide ((w:Int)<(n:Int))=false:=by rw [decide_eq_false_iff_not];omega
  simp only [d2,cond_false]
  rw [hZ] at hz
  exact ⟨g,⟨rfl,hz.1,hz.2.1,hz.2.2⟩,(hR 0 ⟨0,rfl⟩).1.sub (Nat.le_refl 0) (by omega),hp⟩
set_option maxRecDepth 100000 in
theorem GN {H:AH} {bk n:Nat} (h:fq L H bk (fun i=>i) n) (hn:n≤1000000) :
  az Tryd.prog 99 [D bk n,Fc L] H (fun v H'=>∃g,Left L H bk n g v H'∧jv L.toOrdr g 0 n∧bE n g (fun i=>i)):=by
 refine .inl ⟨aB (by kernel_rfl),ck (aT:=_) (dY:=_) au (Eq.mpr (GO (real Tryd.prog) (Iter Tryd.prog) bk n L.g L.hg H _) ?_)⟩
 simp only [aJ]
 refine (GJ h hn).mono ?_
 rintro v H' ⟨g,⟨rfl,h1⟩,h2⟩
 exact ⟨g,⟨rfl,h1⟩,h2⟩
end
/-! The one row that is in order -/
def xY:List ay→ay→List ay
 | [],x=>[x]
 | y :: l,x=>if uM x y then x :: y :: l else y :: xY l x
def cq (sp:List ay):List ay:=sp.foldl xY []
def Ordered (l:List ay):Prop:=l.Pairwise fun x y=>uM y x=false
theorem pZ : ∀(l:List ay) (x:ay),(xY l x).Perm (x :: l)
 | [],x=>List.Perm.refl _
 | y :: l,x=>by
  unfold xY
  split
  ·exact List.Perm.refl _
  ·exact ((pZ l x).cons y).trans (List.Perm.swap x y l)
theorem oT : ∀ {l:List ay} {x:ay},Ordered l→Ordered (xY l x)
 | [],x,_=>List.pairwise_singleton ..
 | y :: l,x,h=>by
  have h':=List.pairwise_cons.1 h
  unfold xY
  split
  ·rename_i hl
   refine List.pairwise_cons.2 ⟨fun z hz=>?_,h⟩
   rcases List.mem_cons.1 hz with rfl | hz
   ·exact xU hl
   ·exact vM (h'.1 z hz) (xU hl)
  ·rename_i hl
   refine List.pairwise_cons.2 ⟨fun z hz=>?_,oT h'.2⟩
   rcases List.mem_cons.1 ((pZ l x).mem_iff.1 hz) with rfl | hz
   ·exact Bool.eq_false_iff.2 hl
   ·exact h'.1 z hz
theorem vN : ∀(sp l:List ay),Ordered l→Ordered (sp.foldl xY l)∧(sp.foldl xY l).Perm (sp ++ l)
 | [],l,h=>⟨h,List.Perm.refl _⟩
 | x :: sp,l,h=>by
  obtain ⟨h1,h2⟩:=vN sp (xY l x) (oT h)
  refine ⟨h1,h2.trans ?_⟩
  exact ((pZ l x).append_left sp).trans List.perm_middle
theorem qM (sp:List ay):Ordered (cq sp)∧(cq sp).Perm sp:=by
 have:=vN sp [] List.Pairwise.nil
 rw [List.append_nil] at this;exact this
def Ji (sp:List ay):Prop:=sp.Pairwise fun x y=>uM x y=true∨uM y x=true
theorem Ph {N:Nat} {f g:Nat→ay} (F : ∀i j,i<j→j<N→uM (f i) (f j)=true) (G : ∀i j,i<j→j<N→uM (g i) (g j)=true) (fg : ∀i,i<N→∃j,j<N∧f i=g j) (gf : ∀i,i<N→∃j,j<N∧g i=f j) : ∀i,i<N→f i=g i:=by
 intro i
 induction i using Nat.strongRecOn with
 | ind i ih =>
  intro hi
  obtain ⟨j,hj,ej⟩:=fg i hi
  obtain ⟨k,hk,ek⟩:=gf i hi
  rcases Nat.lt_trichotomy j i with h1 | h1 | h1
  ·exfalso
   have e:=ih j h1 hj
   have:=F j i h1 hi
   rw [e,ej,Dv] at this;cases this
  ·subst h1;exact ej
  ·rcases Nat.lt_trichotomy k i with h2 | h2 | h2
   ·exfalso
    have e:=ih k h2 hk
    have:=G k i h2 hi
    rw [← e,ek,Dv] at this;cases this
   ·subst h2;exact ek.symm
   ·exfalso
    have x1:=G i j h1 hj
    have x2:=F i k h2 hk
    rw [← ej,ek] at x1
    have:=xU x1
    rw [this] at x2;cases x2
def PV (sp:Nat→ay) (fl:Fl) (h1:fl.own=true) (h2:fl.fz=0):vm where
 sp:=sp
 z9:=uM
 SZ:=xU
 nt:=vM
 g:=111
 hg:=.inl rfl
 cmp:=LA
 pure:=FL
 dec:=Lz
 fl:=fl
 own:=h1
 fz:=h2
theorem El {sp:List ay} (hl:sp.length≤1000000) (ha:Ji sp):wM sp (cq sp):=by
 obtain ⟨ho,hp⟩:=qM sp
 have hlen:(cq sp).length=sp.length:=hp.length_eq
 refine ⟨hlen,fun H q hq hb=>?_⟩
 cases q with
 | none =>
  have h0:sp=[]:=List.length_eq_zero_iff.1 hq.1
  subst h0
  refine Em.dS ⟨rfl,hq,Nat.le_refl _,fun c _ _=>rfl⟩
 | some bk =>
  obtain ⟨n,hn⟩ : ∃n,n=sp.length:=⟨_,rfl⟩
  obtain ⟨f,hf⟩ : ∃f:Nat→ay,f=fun i=>(sp[i]?).getD ⟨0,0,0,0⟩:=⟨_,rfl⟩
  have Io : ∀l:List ay,l.length=n→(List.range n).map (fun i=>(l[i]?).getD ⟨0,0,0,0⟩)=l:=by
   intro l hl
   apply List.ext_getElem
   ·rw [List.length_map,List.length_range,hl]
   ·intro i h1 h2
    rw [List.getElem_map,List.getElem_range,List.getElem?_eq_getElem h2];rfl
  have hH:fq (PV f { fT:=true } rfl rfl) H bk (fun i=>i) n:=by
   have e:(List.range n).map f=sp:=by rw [hf];exact Io sp hn.symm
   show H.get bk=some (.cells (flat ay.cells ((List.range n).map f)) 41 _)
   rw [e];exact hq
  rw [← hn]
  refine (GN hH (by omega)).mono ?_
  rintro v H' ⟨p,⟨rfl,h1,h2,h3⟩,p7,s,t,a1,a2,a3'⟩
  obtain ⟨g,hg⟩ : ∃g:Nat→ay,g=fun i=>f (p i):=⟨_,rfl⟩
  have a3 : ∀i,i<n→g i=f (s i):=fun i hi=>by rw [hg];simp only;rw [a3' i hi]
  have hs : ∀i j,0≤i→i<j→j<n→uM (g j) (g i)=false:=fun i j h1 h2 h3=>by rw [hg];exact (Ordr.z8.1 (p7 i j h1 h2 h3)).1
  refine ⟨rfl,?_,h2,fun c hc cU=>h3 c hc fun e=>cU (by rw [e])⟩
  have apart : ∀i j,i<n→j<n→i ≠ j→uM (f i) (f j)=true∨uM (f j) (f i)=true:=by
   have:=List.pairwise_iff_getElem.1 ha
   intro i j hi hj cU
   rw [hf]
   simp only [List.getElem?_eq_getElem (show i<sp.length by omega),List.getElem?_eq_getElem (show j<sp.length by omega),Option.getD_some]
   rcases Nat.lt_or_ge i j with h | h
   ·exact this i j (by omega) (by omega) h
   ·exact (this j i (by omega) (by omega) (by omega)).symm
  obtain ⟨k,hk⟩ : ∃k:Nat→ay,k=fun i=>((cq sp)[i]?).getD ⟨0,0,0,0⟩:=⟨_,rfl⟩
  have WN:(List.range n).map k=cq sp:=by rw [hk];exact Io _ (by omega)
  have PU : ∀x,x ∈ sp↔∃i,i<n∧f i=x:=by
   intro x
   conv=>lhs;rw [← Io sp hn.symm]
   rw [List.mem_map,hf]
   simp only [List.mem_range]
  have PT : ∀x,x ∈ cq sp↔∃i,i<n∧k i=x:=by
   intro x
   conv=>lhs;rw [← WN]
   rw [List.mem_map]
   simp only [List.mem_range]
  have F : ∀i j,i<j→j<n→uM (g i) (g j)=true:=by
   intro i j Ir hj
   have cU:s i ≠ s j:=fun e=>by
    have h1:=(a1 i (by omega)).2
    have h2:=(a1 j hj).2
    rw [e,h2] at h1;omega
   rcases apart (s i) (s j) (a1 i (by omega)).1 (a1 j hj).1 cU with g1 | g1
   ·rw [a3 i (by omega),a3 j hj];exact g1
   ·have:=hs i j (Nat.zero_le _) Ir hj
    rw [a3 i (by omega),a3 j hj,g1] at this;cases this
  have O0:Ji (cq sp):=(hp.pairwise_iff (fun {x y} h=>h.symm)).2 ha
  have K : ∀i j,i<j→j<n→uM (k i) (k j)=true:=by
   intro i j Ir hj
   have e1:=List.pairwise_iff_getElem.1 O0 i j (by omega) (by omega) Ir
   have e2:=List.pairwise_iff_getElem.1 ho i j (by omega) (by omega) Ir
   rw [hk]
   simp only [List.getElem?_eq_getElem (show i<(cq sp).length by omega),List.getElem?_eq_getElem (show j<(cq sp).length by omega),Option.getD_some]
   rcases e1 with e1 | e1
   ·exact e1
   ·rw [e1] at e2;cases e2
  have gk:=Ph F K (fun i hi=>by
    have:g i ∈ cq sp:=hp.mem_iff.2 ((PU _).2 ⟨s i,(a1 i hi).1,(a3 i hi).symm⟩)
    obtain ⟨j,hj,e⟩:=(PT _).1 this
    exact ⟨j,hj,e.symm⟩) (fun i hi=>by
    have:k i ∈ sp:=hp.mem_iff.1 ((PT _).2 ⟨i,hi,rfl⟩)
    obtain ⟨j,hj,e⟩:=(PU _).1 this
    refine ⟨t j,(a2 j hj).1,?_⟩
    rw [a3 _ (a2 j hj).1,(a2 j hj).2,e])
  have e:(List.range n).map (fun i=>f (p i))=cq sp:=by
   rw [← WN]
   exact List.map_congr_left fun i hi=>by have:=gk i (List.mem_range.1 hi);rw [hg] at this;exact this
  have Xp:H'.get bk=some (.cells (flat ay.cells ((List.range n).map fun i=>f (p i))) 41 { fT:=true }):=h1
  rw [e] at Xp
  exact Xp
end Go.Proofs.YtlkdhhkncoekgaaDoor
